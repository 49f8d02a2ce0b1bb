/- Own lemmas, part 4: an abstract machine for walks, plain facts on numbers and lattices, walks of the functions of the program: Zf Zg Zh Zi Zj Zk Zl Zm Zn Zo Zp Zq Zr Zs Zt Zu Zv Zw Zx Zy Ka Kb Kc Kd. -/
import Derived.Test.YtlbhgejbfhhipaaGreatDoorB03
/- Walks: fractions. -/
namespace Go.Proofs.YtlbhgejbfhhipaaGreatDoor
open Go Go.Am Go.Lib Go.Sp Z1 Z2 Z3 Z4 Z5 Z6
/-- A fraction in lowest terms, as the program has it. -/
def rS (q : Rat) : AV := .agg [.v (.string (zS q.num)), .v (.string (zS (q.den : Int)))]
theorem okZ_nat {n : Nat} (h : okN n) : okZ (n : Int) := h
theorem flittle_ok (z : Int) (h : okZ z) : OkP (laiOf Tryz.prog) Tryz.prog 168 [.v (.string (zS z))] (.tup [.v (.int .i64 (if (zS z).size ≤ 9 then z else 0)), .v (.bool (decide ((zS z).size ≤ 9)))]) := by
  refine okp_intro hT 17 Tryz.func168 rfl rfl rfl (Nat.le_of_ble_eq_true rfl) ⟨trivial, trivial, trivial⟩ ?_
  intro w0 F0 I
  have hz := okZ_size h
  repeat (first|refine z2 ?_|refine z1 ?_|refine z3 ?_|refine z4 ?_|refine z5 ?_)
  refine awp_cond rfl (fun h1 => ?_) (fun h1 => ?_)
  · have h1 : ¬ (zS z).size ≤ 9 := by have := of_decide_eq_true h1; omega
    rw [if_neg h1, decide_eq_false h1]
    repeat (first|refine z2 ?_|refine z1 ?_|refine z3 ?_|refine z4 ?_|refine z5 ?_)
    (exact awp_ret ⟨.inl rfl, ret_tup rfl (by repeat' (first | exact SubL.nil | (refine SubL.cons (.refl ?_) ?_; (focus (first | trivial | exact nrl_u64s _ | exact nr_rowS _ | exact nr_matS _ | exact nrl_i64s _ | exact nrl_rowsC _)))))⟩)
  · have h1 : (zS z).size ≤ 9 := by have := of_decide_eq_false h1; omega
    have hs := zS_small (z := z) (by omega)
    rw [if_pos h1, decide_eq_true h1]
    repeat (first|refine z2 ?_|refine z1 ?_|refine z3 ?_|refine z4 ?_|refine z5 ?_)
    refine zc (atoi_ok (zS z) (by omega) z (by rw [zS_list, atoi_itoa, if_pos (by omega)])) ?_
    repeat (first|refine z2 ?_|refine z1 ?_|refine z3 ?_|refine z4 ?_|refine z5 ?_)
    refine awp_region_draw [] hmix (by kernel_rfl) ?_
    repeat (first|refine z2 ?_|refine z1 ?_|refine z3 ?_|refine z4 ?_|refine z5 ?_)
    (exact awp_ret ⟨.inl rfl, ret_tup rfl (by repeat' (first | exact SubL.nil | (refine SubL.cons (.refl ?_) ?_; (focus (first | trivial | exact nrl_u64s _ | exact nr_rowS _ | exact nr_matS _ | exact nrl_i64s _ | exact nrl_rowsC _)))))⟩)
theorem fboth_ok (q : Rat) (h1 : okZ q.num) (h2 : okN q.den) : OkP (laiOf Tryz.prog) Tryz.prog 117 [rS q] (.tup [.v (.int .i64 (if (zS q.num).size ≤ 9 then q.num else 0)), .v (.int .i64 (if (zS (q.den : Int)).size ≤ 9 then (q.den : Int) else 0)), .v (.bool (decide ((zS q.num).size ≤ 9 ∧ (zS (q.den : Int)).size ≤ 9)))]) := by
  refine okp_intro hT 25 Tryz.func117 rfl rfl rfl (Nat.le_of_ble_eq_true rfl) ⟨trivial, trivial, trivial, trivial⟩ ?_
  intro w0 F0 I
  repeat (first|refine z2 ?_|refine z1 ?_|refine z3 ?_|refine z4 ?_|refine z5 ?_)
  refine zc (flittle_ok q.num h1) ?_
  repeat (first|refine z2 ?_|refine z1 ?_|refine z3 ?_|refine z4 ?_|refine z5 ?_)
  refine zc (flittle_ok (q.den : Int) (okZ_nat h2)) ?_
  repeat (first|refine z2 ?_|refine z1 ?_|refine z3 ?_|refine z4 ?_|refine z5 ?_)
  by_cases hc : (zS q.num).size ≤ 9
  · have hdA : decide ((zS q.num).size ≤ 9) = true := decide_eq_true hc
    repeat (first|refine z2 ?_|refine z1 ?_|refine z3 ?_|refine z4 ?_|refine z5 ?_|refine z8 ?_|refine z9 ?_)
    refine awp_ret ⟨.inl rfl, ret_tup rfl (.cons (.refl trivial) (.cons (.refl trivial) (.cons ?_ .nil)))⟩
    have e : decide ((zS q.num).size ≤ 9 ∧ (zS (q.den : Int)).size ≤ 9) = cond (decide ((zS q.num).size ≤ 9)) (decide ((zS (q.den : Int)).size ≤ 9)) false := by
      rw [hdA, cond_true]
      simp [hc]
    rw [e]
    exact .refl trivial
  · have hdA : decide ((zS q.num).size ≤ 9) = false := decide_eq_false hc
    repeat (first|refine z2 ?_|refine z1 ?_|refine z3 ?_|refine z4 ?_|refine z5 ?_|refine z8 ?_|refine z9 ?_)
    refine al_pick rfl rfl rfl (v := decide ((zS q.num).size ≤ 9)) (r := .v (.bool false)) (by rw [hdA]; rfl) rfl rfl ?_
    repeat (first|refine z2 ?_|refine z1 ?_|refine z3 ?_|refine z4 ?_|refine z5 ?_)
    rw [decide_eq_false (show ¬ ((zS q.num).size ≤ 9 ∧ (zS (q.den : Int)).size ≤ 9) from fun h => hc h.1)]
    (exact awp_ret ⟨.inl rfl, ret_tup rfl (by repeat' (first | exact SubL.nil | (refine SubL.cons (.refl ?_) ?_; (focus (first | trivial | exact nrl_u64s _ | exact nr_rowS _ | exact nr_matS _ | exact nrl_i64s _ | exact nrl_rowsC _)))))⟩)
theorem norm_rS (n : Int) (d : Nat) (h : d ≠ 0) : rS (Rat.normalize n d h) = .agg [.v (.string (zS (n / ((n.natAbs.gcd d : Nat) : Int)))), .v (.string (zS ((d / n.natAbs.gcd d : Nat) : Int)))] := by
  unfold rS
  rw [Rat.normalize_eq]
set_option maxRecDepth 10000 in
theorem of2_ok (n : Int) (d : Nat) (h : d ≠ 0) (hn : n.natAbs ≤ 2000000000000000000) (hd : d ≤ 2000000000000000000) : OkP (laiOf Tryz.prog) Tryz.prog 118 [.v (.int .i64 n), .v (.int .i64 d)] (rS (Rat.normalize n d h)) := by
  rw [norm_rS]
  refine okp_intro hT 28 Tryz.func118 rfl rfl rfl (Nat.le_of_ble_eq_true rfl) ⟨trivial, trivial, trivial⟩ ?_
  intro w0 F0 I
  have hg0 : 0 < n.natAbs.gcd d := Nat.gcd_pos_of_pos_right _ (by omega)
  have hgd := Nat.gcd_dvd_right n.natAbs d
  have hgn := Nat.gcd_dvd_left n.natAbs d
  have hgle : n.natAbs.gcd d ≤ d := Nat.le_of_dvd (by omega) hgd
  generalize hg : n.natAbs.gcd d = g at *
  repeat (first|refine z2 ?_|refine z1 ?_|refine z3 ?_|refine z4 ?_|refine z5 ?_)
  refine awp_loop (fun x : { x : Int × Int // Nat.gcd x.1.natAbs x.2.natAbs = g ∧ x.1.natAbs ≤ 2000000000000000000 ∧ x.2.natAbs ≤ 2000000000000000000 } => ⟨[(0, .v (.int .i64 n)), (1, .v (.int .i64 d)), (4, .adr 0 0 0), (5, .v (.int .i64 x.1.1)), (6, .v (.int .i64 x.1.2))], [(0, [⟨2, [.v (.string ⟨#[]⟩), .v (.string ⟨#[]⟩)]⟩])], 1⟩) (fun x => x.1.2.natAbs) ⟨(n, (d : Int)), hg, hn, by omega⟩ (le_sub ⟨rfl, rfl, rfl, rfl, rfl, trivial⟩ rfl rfl) ?_
  rintro ⟨⟨x, y⟩, hxy, hx, hy⟩
  simp only at hxy hx hy ⊢
  repeat (first|refine z2 ?_|refine z1 ?_|refine z3 ?_|refine z4 ?_|refine z5 ?_)
  refine awp_cond rfl (fun h1 => ?_) (fun h1 => ?_)
  · have hy0 : y ≠ 0 := by simpa using h1
    have hlt : (x.tmod y).natAbs < y.natAbs := by rw [Int.natAbs_tmod]; exact Nat.mod_lt _ (by omega)
    repeat (first|refine z2 ?_|refine z1 ?_|refine z3 ?_|refine z4 ?_|refine z5 ?_)
    refine awp_region_draw [] hmix (by kernel_rfl) ?_
    repeat (first|refine z2 ?_|refine z1 ?_|refine z3 ?_|refine z4 ?_|refine z5 ?_)
    refine ⟨⟨(y, x.tmod y), by show Nat.gcd y.natAbs (x.tmod y).natAbs = g; rw [← hxy, Int.natAbs_tmod, Nat.gcd_comm x.natAbs y.natAbs, Nat.gcd_rec y.natAbs x.natAbs, Nat.gcd_comm], hy, by show (x.tmod y).natAbs ≤ _; omega⟩, le_sub ⟨rfl, rfl, rfl, rfl, rfl, trivial⟩ rfl rfl, hlt⟩
  · have hy0 : y = 0 := by simpa using h1
    subst hy0
    rw [Int.natAbs_zero, Nat.gcd_zero_right] at hxy
    repeat (first|refine z2 ?_|refine z1 ?_|refine z3 ?_|refine z4 ?_|refine z5 ?_)
    refine awp_at ⟨[(0, .v (.int .i64 n)), (1, .v (.int .i64 d)), (4, .adr 0 0 0), (5, .v (.int .i64 (g : Int)))], [(0, [⟨2, [.v (.string ⟨#[]⟩), .v (.string ⟨#[]⟩)]⟩])], 1⟩ ?_ ?_
    · refine awp_cond rfl (fun h2 => ?_) (fun h2 => ?_)
      · have h2 := of_decide_eq_true h2
        repeat (first|refine z2 ?_|refine z1 ?_|refine z3 ?_|refine z4 ?_|refine z5 ?_)
        refine le_sub ⟨rfl, rfl, rfl, ?_, trivial⟩ rfl rfl
        show some (AV.v (.int .i64 (-x))) = _
        rw [show -x = (g : Int) by omega]
      · have h2 := of_decide_eq_false h2
        repeat (first|refine z2 ?_|refine z1 ?_|refine z3 ?_|refine z4 ?_|refine z5 ?_)
        refine le_sub ⟨rfl, rfl, rfl, ?_, trivial⟩ rfl rfl
        show some (AV.v (.int .i64 x)) = _
        rw [show x = (g : Int) by omega]
    · have e1 : n.tdiv (g : Int) = n / (g : Int) := Int.tdiv_eq_ediv_of_dvd (by rw [← Int.natAbs_dvd_natAbs]; simpa using hgn)
      have e2 : (d : Int).tdiv (g : Int) = ((d / g : Nat) : Int) := rfl
      have b1 : (n.tdiv (g : Int)).natAbs ≤ n.natAbs := by rw [Int.natAbs_tdiv]; exact Nat.div_le_self _ _
      have b2 : d / g ≤ d := Nat.div_le_self _ _
      have b3 : 0 ≤ (d : Int).tdiv (g : Int) ∧ (d : Int).tdiv (g : Int) ≤ 2000000000000000000 := by rw [e2]; exact ⟨Int.natCast_nonneg _, Int.ofNat_le.2 (show d / g ≤ 2000000000000000000 from Nat.le_trans b2 hd)⟩
      rw [← e1, ← e2]
      repeat (first|refine z2 ?_|refine z1 ?_|refine z3 ?_|refine z4 ?_|refine z5 ?_)
      refine awp_region_draw [] hmix (by kernel_rfl) ?_
      repeat (first|refine z2 ?_|refine z1 ?_|refine z3 ?_|refine z4 ?_|refine z5 ?_)
      refine zc (itoa_ok (n.tdiv (g : Int)) (by omega) (by omega)) ?_
      repeat (first|refine z2 ?_|refine z1 ?_|refine z3 ?_|refine z4 ?_|refine z5 ?_)
      refine zc (itoa_ok ((d : Int).tdiv (g : Int)) (by omega) (by omega)) ?_
      repeat (first|refine z2 ?_|refine z1 ?_|refine z3 ?_|refine z4 ?_|refine z5 ?_)
      (exact awp_ret ⟨.inl rfl, ret_one rfl (.refl (by first | trivial | exact nrl_u64s _))⟩)
theorem ediv_fdiv (n : Int) (g : Nat) : Int.fdiv n (g : Int) = n / (g : Int) := Int.fdiv_eq_ediv_of_nonneg _ (by omega)
set_option maxRecDepth 10000 in
theorem lowest_ok (n : Int) (d : Nat) (h : d ≠ 0) (hn : okZ n) (hd : okN d) : OkP (laiOf Tryz.prog) Tryz.prog 119 [.v (.string (zS n)), .v (.string (zS (d : Int)))] (rS (Rat.normalize n d h)) := by
  rw [norm_rS]
  refine okp_intro hT 35 Tryz.func119 rfl rfl rfl (Nat.le_of_ble_eq_true rfl) ⟨trivial, trivial, trivial⟩ ?_
  intro w0 F0 I
  have hg0 : 0 < n.natAbs.gcd d := Nat.gcd_pos_of_pos_right _ (by omega)
  have hgle : n.natAbs.gcd d ≤ d := Nat.le_of_dvd (by omega) (Nat.gcd_dvd_right n.natAbs d)
  have hgc := zgcd_ok n (d : Int) hn (okZ_nat hd)
  rw [Int.natAbs_natCast] at hgc
  generalize hg : n.natAbs.gcd d = g at *
  have hgk : okN g := okN_mono hgle hd
  repeat (first|refine z2 ?_|refine z1 ?_|refine z3 ?_|refine z4 ?_|refine z5 ?_)
  refine zc (sign_ok (d : Int) (okZ_nat hd)) ?_
  repeat (first|refine z2 ?_|refine z1 ?_|refine z3 ?_|refine z4 ?_|refine z5 ?_)
  refine awp_cond rfl (fun h1 => ?_) (fun h1 => ?_)
  · have h1 := of_decide_eq_true h1
    rw [Int.sign_eq_one_of_pos (by omega)] at h1
    omega
  repeat (first|refine z2 ?_|refine z1 ?_|refine z3 ?_|refine z4 ?_|refine z5 ?_)
  refine zc (hgc) ?_
  repeat (first|refine z2 ?_|refine z1 ?_|refine z3 ?_|refine z4 ?_|refine z5 ?_)
  refine awp_at ⟨[(0, .v (.string (zS (n / (g : Int))))), (1, .v (.string (zS ((d / g : Nat) : Int)))), (4, .adr 0 0 0)], [(0, [⟨2, [.v (.string ⟨#[]⟩), .v (.string ⟨#[]⟩)]⟩])], 1⟩ ?_ ?_
  · refine awp_cond rfl (fun h2 => ?_) (fun h2 => ?_)
    · have d1 := zdivmod_ok n (g : Int) hn (okZ_nat hgk) (by omega)
      have d2 := zdivmod_ok (d : Int) (g : Int) (okZ_nat hd) (okZ_nat hgk) (by omega)
      rw [ediv_fdiv, zS_nat] at d1
      rw [ediv_fdiv, zS_nat g] at d2
      repeat (first|refine z2 ?_|refine z1 ?_|refine z3 ?_|refine z4 ?_|refine z5 ?_)
      refine zc (d1) ?_
      repeat (first|refine z2 ?_|refine z1 ?_|refine z3 ?_|refine z4 ?_|refine z5 ?_)
      refine zc (d2) ?_
      repeat (first|refine z2 ?_|refine z1 ?_|refine z3 ?_|refine z4 ?_|refine z5 ?_)
      exact le_sub ⟨rfl, rfl, rfl, trivial⟩ rfl rfl
    · have h2 : (!((numS g).toList == (⟨#[49]⟩ : ByteArray).toList)) = false := h2
      rw [num_beq1] at h2
      have hg1 : g = 1 := by simpa using h2
      subst hg1
      repeat (first|refine z2 ?_|refine z1 ?_|refine z3 ?_|refine z4 ?_|refine z5 ?_)
      refine le_sub ⟨?_, ?_, rfl, trivial⟩ rfl rfl
      · show some (AV.v (.string (zS n))) = _
        rw [show ((1 : Nat) : Int) = 1 from rfl, Int.ediv_one]
      · show some (AV.v (.string (zS (d : Int)))) = _
        rw [Nat.div_one]
  · repeat (first|refine z2 ?_|refine z1 ?_|refine z3 ?_|refine z4 ?_|refine z5 ?_)
    (exact awp_ret ⟨.inl rfl, ret_one rfl (.refl (by first | trivial | exact nrl_u64s _))⟩)
end Go.Proofs.YtlbhgejbfhhipaaGreatDoor

/- Walks: arithmetic of fractions. -/
namespace Go.Proofs.YtlbhgejbfhhipaaGreatDoor
open Go Go.Am Go.Lib Go.Sp Z1 Z2 Z3 Z4 Z5 Z6
theorem z1_eq (x : Nat) : ((zS (x : Int)).toList == (⟨#[49]⟩ : ByteArray).toList) = decide (x = 1) := by rw [zS_nat, num_beq1]
set_option maxRecDepth 10000 in
theorem radd_ok (a b : Rat) (h1 : okN (a.num.natAbs * b.den + b.num.natAbs * a.den)) (h2 : okN (a.den * b.den)) : OkP (laiOf Tryz.prog) Tryz.prog 79 [rS a, rS b] (rS (a + b)) := by
  have da := Nat.pos_of_ne_zero a.den_nz
  have db := Nat.pos_of_ne_zero b.den_nz
  have ha : okZ a.num := okN_mono (Nat.le_trans (Nat.le_mul_of_pos_right _ db) (Nat.le_add_right _ _)) h1
  have hb : okZ b.num := okN_mono (Nat.le_trans (Nat.le_mul_of_pos_right _ da) (Nat.le_add_left _ _)) h1
  have ha' : okN a.den := okN_mono (Nat.le_mul_of_pos_right _ db) h2
  have hb' : okN b.den := okN_mono (Nat.le_mul_of_pos_left _ da) h2
  have n1 : (a.num * (b.den : Int)).natAbs = a.num.natAbs * b.den := by rw [Int.natAbs_mul, Int.natAbs_natCast]
  have n2 : (b.num * (a.den : Int)).natAbs = b.num.natAbs * a.den := by rw [Int.natAbs_mul, Int.natAbs_natCast]
  have hsum : okZ (a.num * (b.den : Int) + b.num * (a.den : Int)) := okN_mono (by rw [← n1, ← n2]; exact Int.natAbs_add_le _ _) h1
  rw [Rat.add_def]
  refine okp_intro hT 67 Tryz.func79 rfl rfl rfl (Nat.le_of_ble_eq_true rfl) ⟨trivial, trivial, trivial⟩ ?_
  intro w0 F0 I
  repeat (first | refine awp_seq ?_ | refine awp_block ?_)
  refine awp_at ⟨[(2, .adr 0 0 0), (3, .adr 1 0 0), (4, .adr 2 0 0)], [(2, [⟨2, [.v (.string ⟨#[]⟩), .v (.string ⟨#[]⟩)]⟩]), (1, [⟨2, [.v (.string (zS b.num)), .v (.string (zS (b.den : Int)))]⟩]), (0, [⟨2, [.v (.string (zS a.num)), .v (.string (zS (a.den : Int)))]⟩])], 3⟩ ?_ ?_
  · repeat (first|refine z2 ?_|refine z1 ?_|refine z3 ?_|refine z4 ?_|refine z5 ?_)
    exact le_sub ⟨rfl, rfl, rfl, trivial⟩ rfl rfl
  (repeat (first | refine awp_seq ?_ | refine awp_block ?_ | refine awp_skip ?_))
  refine awp_at ⟨[(2, .adr 0 0 0), (3, .adr 1 0 0), (4, .adr 2 0 0), (18, .v (.bool (decide (a.den = 1 ∧ b.den = 1))))], [(2, [⟨2, [.v (.string ⟨#[]⟩), .v (.string ⟨#[]⟩)]⟩]), (1, [⟨2, [.v (.string (zS b.num)), .v (.string (zS (b.den : Int)))]⟩]), (0, [⟨2, [.v (.string (zS a.num)), .v (.string (zS (a.den : Int)))]⟩])], 3⟩ ?_ ?_
  · refine awp_region ?_
    by_cases hc : a.den = 1
    · have hdA : ((zS (a.den : Int)).toList == (⟨#[49]⟩ : ByteArray).toList) = true := by rw [z1_eq, decide_eq_true hc]
      repeat (first|refine z2 ?_|refine z1 ?_|refine z3 ?_|refine z4 ?_|refine z5 ?_|refine z8 ?_|refine z9 ?_)
      refine le_sub ⟨rfl, rfl, rfl, ?_, trivial⟩ rfl rfl
      refine pick_tt _ _ _ hdA ?_
      rw [z1_eq]
      simp [hc]
    · have hdA : ((zS (a.den : Int)).toList == (⟨#[49]⟩ : ByteArray).toList) = false := by rw [z1_eq, decide_eq_false hc]
      repeat (first|refine z2 ?_|refine z1 ?_|refine z3 ?_|refine z4 ?_|refine z5 ?_|refine z8 ?_|refine z9 ?_)
      refine al_pick rfl rfl rfl (v := ((zS (a.den : Int)).toList == (⟨#[49]⟩ : ByteArray).toList)) (r := .v (.bool false)) (by rw [hdA]; rfl) rfl rfl ?_
      repeat (first|refine z2 ?_|refine z1 ?_|refine z3 ?_|refine z4 ?_|refine z5 ?_)
      refine le_sub ⟨rfl, rfl, rfl, ?_, trivial⟩ rfl rfl
      rw [decide_eq_false (show ¬ (a.den = 1 ∧ b.den = 1) from fun h => hc h.1)]; rfl
  have hn := norm_rS (a.num * (b.den : Int) + b.num * (a.den : Int)) (a.den * b.den) (Nat.mul_ne_zero a.den_nz b.den_nz)
  (repeat (first | refine awp_seq ?_ | refine awp_block ?_ | refine awp_skip ?_))
  refine awp_at ⟨[(2, .adr 0 0 0), (3, .adr 1 0 0), (4, .adr 2 0 0)], [(2, [⟨2, [.v (.string ⟨#[]⟩), .v (.string ⟨#[]⟩)]⟩]), (1, [⟨2, [.v (.string (zS b.num)), .v (.string (zS (b.den : Int)))]⟩]), (0, [⟨2, [.v (.string (zS a.num)), .v (.string (zS (a.den : Int)))]⟩])], 3⟩ ?_ ?_
  · refine awp_cond rfl (fun h => ?_) (fun h => ?_)
    · obtain ⟨e1, e2⟩ := of_decide_eq_true h
      rw [hn, e1, e2]
      simp only [Nat.mul_one, Int.natCast_one, Int.mul_one, Nat.gcd_one_right, Int.ediv_one, Nat.div_one]
      rw [zS_one]
      rw [e1, e2, Nat.mul_one, Nat.mul_one] at h1
      repeat (first|refine z2 ?_|refine z1 ?_|refine z3 ?_|refine z4 ?_|refine z5 ?_)
      refine zc (zadd_ok a.num b.num h1) ?_
      repeat (first|refine z2 ?_|refine z1 ?_|refine z3 ?_|refine z4 ?_|refine z5 ?_)
      (exact awp_ret ⟨.inl rfl, ret_one rfl (.refl (by first | trivial | exact nrl_u64s _))⟩)
    · repeat (first|refine z2 ?_|refine z1 ?_|refine z3 ?_|refine z4 ?_|refine z5 ?_)
      exact le_sub ⟨rfl, rfl, rfl, trivial⟩ rfl rfl
  repeat (first|refine z2 ?_|refine z1 ?_|refine z3 ?_|refine z4 ?_|refine z5 ?_)
  refine zc (fboth_ok a ha ha') ?_
  repeat (first|refine z2 ?_|refine z1 ?_|refine z3 ?_|refine z4 ?_|refine z5 ?_)
  refine awp_at ⟨[(2, .adr 0 0 0), (3, .adr 1 0 0), (4, .adr 2 0 0)], [(2, [⟨2, [.v (.string ⟨#[]⟩), .v (.string ⟨#[]⟩)]⟩]), (1, [⟨2, [.v (.string (zS b.num)), .v (.string (zS (b.den : Int)))]⟩]), (0, [⟨2, [.v (.string (zS a.num)), .v (.string (zS (a.den : Int)))]⟩])], 3⟩ ?_ ?_
  · refine awp_cond rfl (fun h => ?_) (fun h => ?_)
    · obtain ⟨c1, c2⟩ := of_decide_eq_true h
      rw [if_pos c1, if_pos c2]
      repeat (first|refine z2 ?_|refine z1 ?_|refine z3 ?_|refine z4 ?_|refine z5 ?_)
      refine zc (fboth_ok b hb hb') ?_
      repeat (first|refine z2 ?_|refine z1 ?_|refine z3 ?_|refine z4 ?_|refine z5 ?_)
      refine awp_cond rfl (fun h' => ?_) (fun h' => ?_)
      · obtain ⟨c3, c4⟩ := of_decide_eq_true h'
        rw [if_pos c3, if_pos c4]
        have s1 := zS_small9 c1
        have s2 := zS_small9 c2
        have s3 := zS_small9 c3
        have s4 := zS_small9 c4
        have p1 : (a.num * (b.den : Int)).natAbs ≤ 999999999 * 999999999 := by rw [n1]; exact Nat.mul_le_mul (by omega) (by omega)
        have p2 : (b.num * (a.den : Int)).natAbs ≤ 999999999 * 999999999 := by rw [n2]; exact Nat.mul_le_mul (by omega) (by omega)
        have p3 : a.den * b.den ≤ 999999999 * 999999999 := Nat.mul_le_mul (by omega) (by omega)
        have p4 : ((a.den : Int) * (b.den : Int)) = ((a.den * b.den : Nat) : Int) := (Int.natCast_mul _ _).symm
        have q1 : -999999998000000001 ≤ a.num * (b.den : Int) ∧ a.num * (b.den : Int) ≤ 999999998000000001 := by omega
        have q2 : -999999998000000001 ≤ b.num * (a.den : Int) ∧ b.num * (a.den : Int) ≤ 999999998000000001 := by omega
        have q3 : 0 ≤ (a.den : Int) * (b.den : Int) ∧ (a.den : Int) * (b.den : Int) ≤ 999999998000000001 := by rw [p4]; exact ⟨Int.natCast_nonneg _, Int.ofNat_le.2 p3⟩
        have hof := of2_ok (a.num * (b.den : Int) + b.num * (a.den : Int)) (a.den * b.den) (Nat.mul_ne_zero a.den_nz b.den_nz) (by omega) (by omega)
        rw [← p4] at hof
        repeat (first|refine z2 ?_|refine z1 ?_|refine z3 ?_|refine z4 ?_|refine z5 ?_)
        refine zc (hof) ?_
        repeat (first|refine z2 ?_|refine z1 ?_|refine z3 ?_|refine z4 ?_|refine z5 ?_)
        (exact awp_ret ⟨.inl rfl, ret_one rfl (.refl (by first | trivial | exact nrl_u64s _))⟩)
      · repeat (first|refine z2 ?_|refine z1 ?_|refine z3 ?_|refine z4 ?_|refine z5 ?_)
        exact le_sub ⟨rfl, rfl, rfl, trivial⟩ rfl rfl
    · repeat (first|refine z2 ?_|refine z1 ?_|refine z3 ?_|refine z4 ?_|refine z5 ?_)
      exact le_sub ⟨rfl, rfl, rfl, trivial⟩ rfl rfl
  have hlow := lowest_ok (a.num * (b.den : Int) + b.num * (a.den : Int)) (a.den * b.den) (Nat.mul_ne_zero a.den_nz b.den_nz) hsum h2
  have m3 := zmul_ok (a.den : Int) (b.den : Int) ha' hb' h2
  rw [← Int.natCast_mul] at m3
  repeat (first|refine z2 ?_|refine z1 ?_|refine z3 ?_|refine z4 ?_|refine z5 ?_)
  refine awp_region_draw [] hmix (by kernel_rfl) ?_
  repeat (first|refine z2 ?_|refine z1 ?_|refine z3 ?_|refine z4 ?_|refine z5 ?_)
  refine zc (zmul_ok a.num (b.den : Int) ha hb' (okN_mono (Nat.le_add_right _ _) h1)) ?_
  repeat (first|refine z2 ?_|refine z1 ?_|refine z3 ?_|refine z4 ?_|refine z5 ?_)
  refine zc (zmul_ok b.num (a.den : Int) hb ha' (okN_mono (Nat.le_add_left _ _) h1)) ?_
  repeat (first|refine z2 ?_|refine z1 ?_|refine z3 ?_|refine z4 ?_|refine z5 ?_)
  refine zc (zadd_ok (a.num * (b.den : Int)) (b.num * (a.den : Int)) (by rw [n1, n2]; exact h1)) ?_
  repeat (first|refine z2 ?_|refine z1 ?_|refine z3 ?_|refine z4 ?_|refine z5 ?_)
  refine zc (m3) ?_
  repeat (first|refine z2 ?_|refine z1 ?_|refine z3 ?_|refine z4 ?_|refine z5 ?_)
  refine zc (hlow) ?_
  repeat (first|refine z2 ?_|refine z1 ?_|refine z3 ?_|refine z4 ?_|refine z5 ?_)
  (exact awp_ret ⟨.inl rfl, ret_one rfl (.refl (by first | trivial | exact nrl_u64s _))⟩)
end Go.Proofs.YtlbhgejbfhhipaaGreatDoor

/- Walks: more of fractions, and what is right. -/
namespace Go.Proofs.YtlbhgejbfhhipaaGreatDoor
open Go Go.Am Go.Lib Go.Sp Z1 Z2 Z3 Z4 Z5 Z6
theorem rneg_ok {Λ : Lai} (q : Rat) (h : okZ q.num) : OkP Λ Tryz.prog 87 [rS q] (rS (-q)) := by
  have e : rS (-q) = .agg [.v (.string (zS (-q.num))), .v (.string (zS (q.den : Int)))] := rfl
  rw [e]
  refine okp_intro hT 9 Tryz.func87 rfl rfl rfl (Nat.le_of_ble_eq_true rfl) ⟨trivial, trivial, trivial⟩ ?_
  intro w0 F0 I
  repeat (first|refine z2 ?_|refine z1 ?_|refine z3 ?_|refine z4 ?_|refine z5 ?_)
  refine awp_region_draw [] hmix (by kernel_rfl) ?_
  repeat (first|refine z2 ?_|refine z1 ?_|refine z3 ?_|refine z4 ?_|refine z5 ?_)
  refine zc (neg_ok q.num h) ?_
  repeat (first|refine z2 ?_|refine z1 ?_|refine z3 ?_|refine z4 ?_|refine z5 ?_)
  (exact awp_ret ⟨.inl rfl, ret_one rfl (.refl (by first | trivial | exact nrl_u64s _))⟩)
theorem rsub_ok (a b : Rat) (h1 : okN (a.num.natAbs * b.den + b.num.natAbs * a.den)) (h2 : okN (a.den * b.den)) : OkP (laiOf Tryz.prog) Tryz.prog 41 [rS a, rS b] (rS (a - b)) := by
  have da := Nat.pos_of_ne_zero a.den_nz
  have hb : okZ b.num := okN_mono (Nat.le_trans (Nat.le_mul_of_pos_right _ da) (Nat.le_add_left _ _)) h1
  rw [Rat.sub_eq_add_neg]
  refine okp_intro hT 9 Tryz.func41 rfl rfl rfl (Nat.le_of_ble_eq_true rfl) ⟨trivial, trivial, trivial⟩ ?_
  intro w0 F0 I
  repeat (first|refine z2 ?_|refine z1 ?_|refine z3 ?_|refine z4 ?_|refine z5 ?_)
  refine awp_region_draw [] hmix (by kernel_rfl) ?_
  repeat (first|refine z2 ?_|refine z1 ?_|refine z3 ?_|refine z4 ?_|refine z5 ?_)
  refine zc (rneg_ok b hb) ?_
  repeat (first|refine z2 ?_|refine z1 ?_|refine z3 ?_|refine z4 ?_|refine z5 ?_)
  refine zc (radd_ok a (-b) (by show okN (a.num.natAbs * b.den + (-b.num).natAbs * a.den); rw [Int.natAbs_neg]; exact h1) h2) ?_
  repeat (first|refine z2 ?_|refine z1 ?_|refine z3 ?_|refine z4 ?_|refine z5 ?_)
  (exact awp_ret ⟨.inl rfl, ret_one rfl (.refl (by first | trivial | exact nrl_u64s _))⟩)
set_option maxRecDepth 10000 in
theorem rmul_ok (a b : Rat) (ha : okZ a.num) (hb : okZ b.num) (h1 : okN (a.num.natAbs * b.num.natAbs)) (h2 : okN (a.den * b.den)) : OkP (laiOf Tryz.prog) Tryz.prog 80 [rS a, rS b] (rS (a * b)) := by
  have da := Nat.pos_of_ne_zero a.den_nz
  have db := Nat.pos_of_ne_zero b.den_nz
  have ha' : okN a.den := okN_mono (Nat.le_mul_of_pos_right _ db) h2
  have hb' : okN b.den := okN_mono (Nat.le_mul_of_pos_left _ da) h2
  have n1 : (a.num * b.num).natAbs = a.num.natAbs * b.num.natAbs := Int.natAbs_mul _ _
  have hprod : okZ (a.num * b.num) := okN_mono (by rw [n1]; exact Nat.le_refl _) h1
  rw [Rat.mul_def]
  refine okp_intro hT 43 Tryz.func80 rfl rfl rfl (Nat.le_of_ble_eq_true rfl) ⟨trivial, trivial, trivial⟩ ?_
  intro w0 F0 I
  repeat (first|refine z2 ?_|refine z1 ?_|refine z3 ?_|refine z4 ?_|refine z5 ?_)
  refine zc (fboth_ok a ha ha') ?_
  repeat (first|refine z2 ?_|refine z1 ?_|refine z3 ?_|refine z4 ?_|refine z5 ?_)
  refine awp_at ⟨[(2, .adr 0 0 0), (3, .adr 1 0 0), (4, .adr 2 0 0)], [(2, [⟨2, [.v (.string ⟨#[]⟩), .v (.string ⟨#[]⟩)]⟩]), (1, [⟨2, [.v (.string (zS b.num)), .v (.string (zS (b.den : Int)))]⟩]), (0, [⟨2, [.v (.string (zS a.num)), .v (.string (zS (a.den : Int)))]⟩])], 3⟩ ?_ ?_
  · refine awp_cond rfl (fun h => ?_) (fun h => ?_)
    · obtain ⟨c1, c2⟩ := of_decide_eq_true h
      rw [if_pos c1, if_pos c2]
      repeat (first|refine z2 ?_|refine z1 ?_|refine z3 ?_|refine z4 ?_|refine z5 ?_)
      refine zc (fboth_ok b hb hb') ?_
      repeat (first|refine z2 ?_|refine z1 ?_|refine z3 ?_|refine z4 ?_|refine z5 ?_)
      refine awp_cond rfl (fun h' => ?_) (fun h' => ?_)
      · obtain ⟨c3, c4⟩ := of_decide_eq_true h'
        rw [if_pos c3, if_pos c4]
        have s1 := zS_small9 c1
        have s2 := zS_small9 c2
        have s3 := zS_small9 c3
        have s4 := zS_small9 c4
        have p1 : (a.num * b.num).natAbs ≤ 999999999 * 999999999 := by rw [n1]; exact Nat.mul_le_mul (by omega) (by omega)
        have p3 : a.den * b.den ≤ 999999999 * 999999999 := Nat.mul_le_mul (by omega) (by omega)
        have p4 : ((a.den : Int) * (b.den : Int)) = ((a.den * b.den : Nat) : Int) := (Int.natCast_mul _ _).symm
        have q1 : -999999998000000001 ≤ a.num * b.num ∧ a.num * b.num ≤ 999999998000000001 := by omega
        have q3 : 0 ≤ (a.den : Int) * (b.den : Int) ∧ (a.den : Int) * (b.den : Int) ≤ 999999998000000001 := by rw [p4]; exact ⟨Int.natCast_nonneg _, Int.ofNat_le.2 p3⟩
        have hof := of2_ok (a.num * b.num) (a.den * b.den) (Nat.mul_ne_zero a.den_nz b.den_nz) (by omega) (by omega)
        rw [← p4] at hof
        repeat (first|refine z2 ?_|refine z1 ?_|refine z3 ?_|refine z4 ?_|refine z5 ?_)
        refine zc (hof) ?_
        repeat (first|refine z2 ?_|refine z1 ?_|refine z3 ?_|refine z4 ?_|refine z5 ?_)
        (exact awp_ret ⟨.inl rfl, ret_one rfl (.refl (by first | trivial | exact nrl_u64s _))⟩)
      · repeat (first|refine z2 ?_|refine z1 ?_|refine z3 ?_|refine z4 ?_|refine z5 ?_)
        exact le_sub ⟨rfl, rfl, rfl, trivial⟩ rfl rfl
    · repeat (first|refine z2 ?_|refine z1 ?_|refine z3 ?_|refine z4 ?_|refine z5 ?_)
      exact le_sub ⟨rfl, rfl, rfl, trivial⟩ rfl rfl
  have hlow := lowest_ok (a.num * b.num) (a.den * b.den) (Nat.mul_ne_zero a.den_nz b.den_nz) hprod h2
  have m3 := zmul_ok (a.den : Int) (b.den : Int) ha' hb' h2
  rw [← Int.natCast_mul] at m3
  repeat (first|refine z2 ?_|refine z1 ?_|refine z3 ?_|refine z4 ?_|refine z5 ?_)
  refine awp_region_draw [] hmix (by kernel_rfl) ?_
  repeat (first|refine z2 ?_|refine z1 ?_|refine z3 ?_|refine z4 ?_|refine z5 ?_)
  refine zc (zmul_ok a.num b.num ha hb h1) ?_
  repeat (first|refine z2 ?_|refine z1 ?_|refine z3 ?_|refine z4 ?_|refine z5 ?_)
  refine zc (m3) ?_
  repeat (first|refine z2 ?_|refine z1 ?_|refine z3 ?_|refine z4 ?_|refine z5 ?_)
  refine zc (hlow) ?_
  repeat (first|refine z2 ?_|refine z1 ?_|refine z3 ?_|refine z4 ?_|refine z5 ?_)
  (exact awp_ret ⟨.inl rfl, ret_one rfl (.refl (by first | trivial | exact nrl_u64s _))⟩)
theorem new_ok (n : Int) (d : Nat) (h : d ≠ 0) (hn : okZ n) (hd : okN d) : OkP (laiOf Tryz.prog) Tryz.prog 124 [.v (.string (zS n)), .v (.string (zS (d : Int)))] (.tup [rS (Rat.normalize n d h), .v (.int .i64 0)]) := by
  refine okp_intro hT 13 Tryz.func124 rfl rfl rfl (Nat.le_of_ble_eq_true rfl) ⟨⟨trivial, trivial, trivial⟩, trivial, trivial⟩ ?_
  intro w0 F0 I
  repeat (first|refine z2 ?_|refine z1 ?_|refine z3 ?_|refine z4 ?_|refine z5 ?_)
  refine zc (sign_ok (d : Int) (okZ_nat hd)) ?_
  repeat (first|refine z2 ?_|refine z1 ?_|refine z3 ?_|refine z4 ?_|refine z5 ?_)
  refine awp_cond rfl (fun h1 => ?_) (fun h1 => ?_)
  · rw [Int.sign_eq_one_of_pos (by omega)] at h1
    cases h1
  repeat (first|refine z2 ?_|refine z1 ?_|refine z3 ?_|refine z4 ?_|refine z5 ?_)
  refine zc (lowest_ok n d h hn hd) ?_
  repeat (first|refine z2 ?_|refine z1 ?_|refine z3 ?_|refine z4 ?_|refine z5 ?_)
  (exact awp_ret ⟨.inl rfl, ret_tup rfl (by repeat' (first | exact SubL.nil | (refine SubL.cons (.refl ?_) ?_; (focus (first | trivial | exact nrl_u64s _ | exact nr_rowS _ | exact nr_matS _ | exact nrl_i64s _ | exact nrl_rowsC _)))))⟩)
theorem rof_ok (n : Int) (d : Nat) (h : d ≠ 0) (hn : -9223372036854775808 ≤ n ∧ n ≤ 9223372036854775807) (hd : d ≤ 9223372036854775807) : OkP (laiOf Tryz.prog) Tryz.prog 83 [.v (.int .i64 n), .v (.int .i64 d)] (.tup [rS (Rat.normalize n d h), .v (.int .i64 0)]) := by
  refine okp_intro hT 13 Tryz.func83 rfl rfl rfl (Nat.le_of_ble_eq_true rfl) ⟨⟨trivial, trivial, trivial⟩, trivial, trivial⟩ ?_
  intro w0 F0 I
  repeat (first|refine z2 ?_|refine z1 ?_|refine z3 ?_|refine z4 ?_|refine z5 ?_)
  refine zc (zof_ok n (by omega) (by omega)) ?_
  repeat (first|refine z2 ?_|refine z1 ?_|refine z3 ?_|refine z4 ?_|refine z5 ?_)
  refine zc (zof_ok (d : Int) (by omega) (by omega)) ?_
  refine zc (new_ok n d h (okN_small (by omega)) (okN_small (by omega))) ?_
  repeat (first|refine z2 ?_|refine z1 ?_|refine z3 ?_|refine z4 ?_|refine z5 ?_)
  (exact awp_ret ⟨.inl rfl, ret_tup rfl (by repeat' (first | exact SubL.nil | (refine SubL.cons (.refl ?_) ?_; (focus (first | trivial | exact nrl_u64s _ | exact nr_rowS _ | exact nr_matS _ | exact nrl_i64s _ | exact nrl_rowsC _)))))⟩)
theorem rS_int (n : Int) : rS (Rat.normalize n 1 (by decide)) = rS (n : Rat) := by
  rw [norm_rS]
  unfold rS
  simp
/-- A byte is a digit. -/
def digB (c : UInt8) : Bool := decide (48 ≤ c.toNat) && decide (c.toNat ≤ 57)
def canonL (l : List UInt8) : Bool := l.all digB && (decide (l.length = 1) || (decide (1 < l.length) && !(((l.getD 0 0).toNat : Int) == 48)))
set_option maxRecDepth 10000 in
theorem canon_ok {Λ : Lai} (s : ByteArray) (hs : s.size ≤ 100000000000000) : OkP Λ Tryz.prog 169 [.v (.string s)] (.v (.bool (canonL s.data.toList))) := by
  refine okp_intro hT 32 Tryz.func169 rfl rfl rfl (Nat.le_of_ble_eq_true rfl) trivial ?_
  intro w0 F0 I
  obtain ⟨l, hl⟩ : ∃ l, l = s.data.toList := ⟨_, rfl⟩
  have hsz : s.size = l.length := by rw [hl]; exact (Array.length_toList).symm
  repeat (first|refine z2 ?_|refine z1 ?_|refine z3 ?_|refine z4 ?_|refine z5 ?_)
  refine al_bytes hT rfl rfl rfl rfl rfl rfl rfl rfl rfl rfl ?_
  rw [← hl]
  repeat (first|refine z2 ?_|refine z1 ?_|refine z3 ?_|refine z4 ?_|refine z5 ?_)
  refine awp_loop (fun x : { x : Nat // x ≤ l.length ∧ (l.take x).all digB = true } => ⟨[(0, .v (.string s)), (6, .sl 1 s.size (u8s l)), (7, .v (.int .i64 s.size)), (8, .v (.int .i64 x.1))], [], 0⟩) (fun x => l.length - x.1) ⟨0, Nat.zero_le _, by simp⟩ (le_sub ⟨rfl, rfl, rfl, rfl, trivial⟩ rfl rfl) ?_
  rintro ⟨j, hj, hd⟩
  simp only at hj hd ⊢
  repeat (first|refine z2 ?_|refine z1 ?_|refine z3 ?_|refine z4 ?_|refine z5 ?_)
  refine awp_cond rfl (fun h => ?_) (fun h => ?_)
  · have hjl : j < l.length := by have := of_decide_eq_true h; omega
    repeat (first|refine z2 ?_|refine z1 ?_|refine z3 ?_|refine z4 ?_|refine z5 ?_)
    refine al_pure hT rfl (pure_load_pt rfl rfl rfl (u8s_drop (j := j) (by omega) hjl)) rfl rfl True.intro ?_
    repeat (refine z2 ?_)
    refine al_nil ?_
    (repeat (first | refine awp_seq ?_ | refine awp_block ?_ | refine awp_skip ?_))
    refine awp_at ⟨[(0, .v (.string s)), (6, .sl 1 s.size (u8s l)), (7, .v (.int .i64 s.size)), (8, .v (.int .i64 j)), (17, .v (.bool (!(digB l[j]))))], [], 0⟩ ?_ ?_
    · refine awp_region ?_
      by_cases h1 : (l[j].toNat : Int) < 48
      · have hdA : decide ((l[j].toNat : Int) < 48) = true := decide_eq_true h1
        repeat (first|refine z2 ?_|refine z1 ?_|refine z3 ?_|refine z4 ?_|refine z5 ?_|refine z8 ?_|refine z9 ?_)
        refine al_pick rfl rfl rfl (v := decide ((l[j].toNat : Int) < 48)) (r := .v (.bool true)) (by rw [hdA]; rfl) rfl rfl ?_
        repeat (first|refine z2 ?_|refine z1 ?_|refine z3 ?_|refine z4 ?_|refine z5 ?_)
        refine le_sub ⟨rfl, rfl, rfl, rfl, ?_, trivial⟩ rfl rfl
        have : digB l[j] = false := by unfold digB; rw [decide_eq_false (by omega)]; rfl
        rw [this]; rfl
      · have hdA : decide ((l[j].toNat : Int) < 48) = false := decide_eq_false h1
        repeat (first|refine z2 ?_|refine z1 ?_|refine z3 ?_|refine z4 ?_|refine z5 ?_|refine z8 ?_|refine z9 ?_)
        refine le_sub ⟨rfl, rfl, rfl, rfl, ?_, trivial⟩ rfl rfl
        show some (AV.v (.bool (cond (decide ((l[j].toNat : Int) < 48)) true (decide ((l[j].toNat : Int) > 57))))) = _
        rw [hdA, cond_false]
        have : digB l[j] = decide (l[j].toNat ≤ 57) := by unfold digB; rw [decide_eq_true (by omega)]; rfl
        rw [this]
        congr 3
        by_cases h2 : l[j].toNat ≤ 57
        · rw [decide_eq_true h2, decide_eq_false (by omega)]; rfl
        · rw [decide_eq_false h2, decide_eq_true (by omega)]; rfl
    · refine awp_cond rfl (fun h1 => ?_) (fun h1 => ?_)
      · have h1 : digB l[j] = false := by simpa using h1
        have hc : canonL l = false := by
          unfold canonL
          rw [Bool.and_eq_false_iff]
          left
          rw [List.all_eq_false]
          exact ⟨l[j], List.getElem_mem hjl, by simp [h1]⟩
        repeat (first|refine z2 ?_|refine z1 ?_|refine z3 ?_|refine z4 ?_|refine z5 ?_)
        refine awp_ret ⟨.inl rfl, ret_one rfl ?_⟩
        rw [hc]
        exact .refl trivial
      · have h1 : digB l[j] = true := by simpa using h1
        repeat (first|refine z2 ?_|refine z1 ?_|refine z3 ?_|refine z4 ?_|refine z5 ?_)
        refine ⟨⟨j + 1, hjl, ?_⟩, le_sub ⟨rfl, rfl, rfl, rfl, trivial⟩ rfl rfl, by show l.length - (j + 1) < l.length - j; omega⟩
        rw [List.take_add_one, List.getElem?_eq_getElem hjl, Option.toList_some, List.all_append, hd]
        simp [h1]
  · have hjl : j = l.length := by have := of_decide_eq_false h; omega
    rw [hjl, List.take_length] at hd
    have hbt : bt s 0 = ((l.getD 0 0).toNat : Int) := by
      unfold bt
      rw [hl]
      simp [List.getD_eq_getElem?_getD]
    have hcan : canonL l = (decide (l.length = 1) || (decide (1 < l.length) && !(((l.getD 0 0).toNat : Int) == 48))) := by
      unfold canonL; rw [hd, Bool.true_and]
    (repeat (first | refine awp_seq ?_ | refine awp_block ?_ | refine awp_skip ?_))
    refine awp_exit ?_
    (repeat (first | refine awp_seq ?_ | refine awp_block ?_ | refine awp_skip ?_))
    refine awp_at ⟨[(2, .v (.bool (canonL l)))], [], 0⟩ ?_ ?_
    · refine awp_region ?_
      rw [hcan]
      by_cases h1 : l.length = 1
      · have hdA : ((s.size : Int) == 1) = true := by simp; omega
        repeat (first|refine z2 ?_|refine z1 ?_|refine z3 ?_|refine z4 ?_|refine z5 ?_|refine z8 ?_|refine z9 ?_)
        refine al_pick rfl rfl rfl (v := ((s.size : Int) == 1)) (r := .v (.bool true)) (by rw [hdA]; rfl) rfl rfl ?_
        repeat (first|refine z2 ?_|refine z1 ?_|refine z3 ?_|refine z4 ?_|refine z5 ?_)
        refine le_sub ⟨?_, trivial⟩ rfl rfl
        rw [decide_eq_true h1]; rfl
      · have hdA : ((s.size : Int) == 1) = false := by simp; omega
        by_cases h2 : 1 < l.length
        · have hdB : decide ((s.size : Int) > 1) = true := decide_eq_true (by omega)
          repeat (first|refine z2 ?_|refine z1 ?_|refine z3 ?_|refine z4 ?_|refine z5 ?_|refine z8 ?_|refine z9 ?_)
          refine le_sub ⟨?_, trivial⟩ rfl rfl
          show some (AV.v (.bool (cond ((s.size : Int) == 1) true (cond (decide ((s.size : Int) > 1)) (bt s 0 != 48) false)))) = _
          rw [hdA, hdB, cond_false, cond_true, decide_eq_false h1, decide_eq_true h2, hbt]
          rfl
        · have hdB : decide ((s.size : Int) > 1) = false := decide_eq_false (by omega)
          repeat (first|refine z2 ?_|refine z1 ?_|refine z3 ?_|refine z4 ?_|refine z5 ?_|refine z8 ?_|refine z9 ?_)
          refine al_on_pick rfl rfl rfl ?_ rfl (v := decide ((s.size : Int) > 1)) (r := .v (.bool false)) rfl ?_ rfl rfl ?_
          focus (rw [hdA]; rfl)
          focus (rw [hdB]; rfl)
          repeat (first|refine z2 ?_|refine z1 ?_|refine z3 ?_|refine z4 ?_|refine z5 ?_|refine z8 ?_|refine z9 ?_)
          refine le_sub ⟨?_, trivial⟩ rfl rfl
          show some (AV.v (.bool (cond ((s.size : Int) == 1) true false))) = _
          rw [hdA, cond_false, decide_eq_false h1, decide_eq_false h2]
          rfl
    · repeat (first|refine z2 ?_|refine z1 ?_|refine z3 ?_|refine z4 ?_|refine z5 ?_)
      (exact awp_ret ⟨.inl rfl, ret_one rfl (.refl (by first | trivial | exact nrl_u64s _))⟩)
end Go.Proofs.YtlbhgejbfhhipaaGreatDoor

/- Walks: what is right. -/
namespace Go.Proofs.YtlbhgejbfhhipaaGreatDoor
open Go Go.Am Go.Lib Go.Sp Z1 Z2 Z3 Z4 Z5 Z6
theorem dchk_ok {Λ : Lai} (s : ByteArray) (hs : s.size ≤ 100000000000000) : OkP Λ Tryz.prog 126 [.v (.string s)] (.v (.int .i64 (if canonL s.data.toList = true ∧ s.size ≤ 400 then 0 else 2))) := by
  refine okp_intro hT 11 Tryz.func126 rfl rfl rfl (Nat.le_of_ble_eq_true rfl) trivial ?_
  intro w0 F0 I
  cases hc : canonL s.data.toList with
  | false =>
    have h1 := canon_ok (Λ := Λ) s hs
    rw [hc] at h1
    rw [if_neg (fun h => by cases h.1)]
    repeat (first|refine z2 ?_|refine z1 ?_|refine z3 ?_|refine z4 ?_|refine z5 ?_)
    refine zc (h1) ?_
    repeat (first|refine z2 ?_|refine z1 ?_|refine z3 ?_|refine z4 ?_|refine z5 ?_|refine z6 ?_|refine z7 ?_)
    refine al_pick rfl rfl rfl (v := true) (r := .v (.bool true)) rfl rfl rfl ?_
    repeat (first|refine z2 ?_|refine z1 ?_|refine z3 ?_|refine z4 ?_|refine z5 ?_)
    refine awp_cond rfl (fun _ => ?_) (fun h => by cases h)
    repeat (first|refine z2 ?_|refine z1 ?_|refine z3 ?_|refine z4 ?_|refine z5 ?_)
    (exact awp_ret ⟨.inl rfl, ret_one rfl (.refl (by first | trivial | exact nrl_u64s _))⟩)
  | true =>
    have h1 := canon_ok (Λ := Λ) s hs
    rw [hc] at h1
    repeat (first|refine z2 ?_|refine z1 ?_|refine z3 ?_|refine z4 ?_|refine z5 ?_)
    refine zc (h1) ?_
    repeat (first|refine z2 ?_|refine z1 ?_|refine z3 ?_|refine z4 ?_|refine z5 ?_|refine z6 ?_|refine z7 ?_)
    refine awp_cond rfl (fun h => ?_) (fun h => ?_)
    · have h : decide ((s.size : Int) > 400) = true := h
      have h := of_decide_eq_true h
      rw [if_neg (fun h2 => by omega)]
      repeat (first|refine z2 ?_|refine z1 ?_|refine z3 ?_|refine z4 ?_|refine z5 ?_)
      (exact awp_ret ⟨.inl rfl, ret_one rfl (.refl (by first | trivial | exact nrl_u64s _))⟩)
    · have h : decide ((s.size : Int) > 400) = false := h
      have h := of_decide_eq_false h
      rw [if_pos ⟨rfl, by omega⟩]
      repeat (first|refine z2 ?_|refine z1 ?_|refine z3 ?_|refine z4 ?_|refine z5 ?_)
      (exact awp_ret ⟨.inl rfl, ret_one rfl (.refl (by first | trivial | exact nrl_u64s _))⟩)
theorem digB_iff (c : UInt8) : digB c = true ↔ isDig c := by
  unfold digB isDig
  simp
theorem canon_dec (n : Nat) : canonL (decDigits n) = true := by
  unfold canonL
  rw [Bool.and_eq_true]
  refine ⟨List.all_eq_true.2 (fun c hc => (digB_iff c).2 (dec_digs n c hc)), ?_⟩
  by_cases h : (decDigits n).length = 1
  · rw [decide_eq_true h]; rfl
  · have hn : n ≠ 0 := fun e => by subst e; rw [dec_zero] at h; exact h rfl
    obtain ⟨c, l, e, h1, h2⟩ := dec_head hn
    have hp := dec_len_pos n
    rw [decide_eq_false h, decide_eq_true (by omega), e]
    simp
    intro hh
    omega
set_option maxRecDepth 10000 in
theorem zchk_ok {Λ : Lai} (z : Int) (h : okZ z) : OkP Λ Tryz.prog 84 [.v (.string (zS z))] (.v (.int .i64 (if (numS z.natAbs).size ≤ 400 then 0 else 2))) := by
  refine okp_intro hT 20 Tryz.func84 rfl rfl rfl (Nat.le_of_ble_eq_true rfl) trivial ?_
  intro w0 F0 I
  have hd := dchk_ok (Λ := Λ) (numS z.natAbs) (by unfold okZ okN at h; omega)
  rw [numS_list, canon_dec] at hd
  simp only [true_and] at hd
  repeat (first|refine z2 ?_|refine z1 ?_|refine z3 ?_|refine z4 ?_|refine z5 ?_)
  refine zc (split_ok z h) ?_
  repeat (first|refine z2 ?_|refine z1 ?_|refine z3 ?_|refine z4 ?_|refine z5 ?_)
  by_cases hz : z < 0
  · have hdA : decide (z < 0) = true := decide_eq_true hz
    have hdB : ((numS z.natAbs).toList == (⟨#[48]⟩ : ByteArray).toList) = false := by rw [num_beq0, decide_eq_false (by omega)]
    repeat (first|refine z2 ?_|refine z1 ?_|refine z3 ?_|refine z4 ?_|refine z5 ?_|refine z8 ?_|refine z9 ?_)
    refine zo (hd) ?_
    repeat (first|refine z2 ?_|refine z1 ?_|refine z3 ?_|refine z4 ?_|refine z5 ?_|refine z8 ?_|refine z9 ?_)
    refine awp_cond rfl (fun h => ?_) (fun h => ?_)
    · have h : cond (cond (decide (z < 0)) ((numS z.natAbs).toList == (⟨#[48]⟩ : ByteArray).toList) false) true ((if (numS z.natAbs).size ≤ 400 then (0 : Int) else 2) != 0) = true := h
      rw [hdA, hdB, cond_true, cond_false] at h
      have hn : ¬ (numS z.natAbs).size ≤ 400 := fun e => by rw [if_pos e] at h; cases h
      rw [if_neg hn]
      repeat (first|refine z2 ?_|refine z1 ?_|refine z3 ?_|refine z4 ?_|refine z5 ?_)
      (exact awp_ret ⟨.inl rfl, ret_one rfl (.refl (by first | trivial | exact nrl_u64s _))⟩)
    · have h : cond (cond (decide (z < 0)) ((numS z.natAbs).toList == (⟨#[48]⟩ : ByteArray).toList) false) true ((if (numS z.natAbs).size ≤ 400 then (0 : Int) else 2) != 0) = false := h
      rw [hdA, hdB, cond_true, cond_false] at h
      have hn : (numS z.natAbs).size ≤ 400 := by
        by_cases e : (numS z.natAbs).size ≤ 400
        · exact e
        · rw [if_neg e] at h; cases h
      rw [if_pos hn]
      repeat (first|refine z2 ?_|refine z1 ?_|refine z3 ?_|refine z4 ?_|refine z5 ?_)
      (exact awp_ret ⟨.inl rfl, ret_one rfl (.refl (by first | trivial | exact nrl_u64s _))⟩)
  · have hdA : decide (z < 0) = false := decide_eq_false hz
    repeat (first|refine z2 ?_|refine z1 ?_|refine z3 ?_|refine z4 ?_|refine z5 ?_|refine z8 ?_|refine z9 ?_)
    refine al_pick rfl rfl rfl (v := decide (z < 0)) (r := .v (.bool false)) (by rw [hdA]; rfl) rfl rfl ?_
    repeat (first|refine z2 ?_|refine z1 ?_|refine z3 ?_|refine z4 ?_|refine z5 ?_|refine z8 ?_|refine z9 ?_)
    refine zo (hd) ?_
    repeat (first|refine z2 ?_|refine z1 ?_|refine z3 ?_|refine z4 ?_|refine z5 ?_|refine z8 ?_|refine z9 ?_)
    refine awp_cond rfl (fun h => ?_) (fun h => ?_)
    · have h : ((if (numS z.natAbs).size ≤ 400 then (0 : Int) else 2) != 0) = true := h
      have hn : ¬ (numS z.natAbs).size ≤ 400 := fun e => by rw [if_pos e] at h; cases h
      rw [if_neg hn]
      repeat (first|refine z2 ?_|refine z1 ?_|refine z3 ?_|refine z4 ?_|refine z5 ?_)
      (exact awp_ret ⟨.inl rfl, ret_one rfl (.refl (by first | trivial | exact nrl_u64s _))⟩)
    · have h : ((if (numS z.natAbs).size ≤ 400 then (0 : Int) else 2) != 0) = false := h
      have hn : (numS z.natAbs).size ≤ 400 := by
        by_cases e : (numS z.natAbs).size ≤ 400
        · exact e
        · rw [if_neg e] at h; cases h
      rw [if_pos hn]
      repeat (first|refine z2 ?_|refine z1 ?_|refine z3 ?_|refine z4 ?_|refine z5 ?_)
      (exact awp_ret ⟨.inl rfl, ret_one rfl (.refl (by first | trivial | exact nrl_u64s _))⟩)
/-- What is right of a fraction in lowest terms. -/
theorem rchk_ok (q : Rat) (h1 : okZ q.num) (h2 : okN q.den) : OkP (laiOf Tryz.prog) Tryz.prog 39 [rS q] (.v (.int .i64 (if (numS q.num.natAbs).size ≤ 400 ∧ (numS q.den).size ≤ 400 then 0 else 2))) := by
  refine okp_intro hT 23 Tryz.func39 rfl rfl rfl (Nat.le_of_ble_eq_true rfl) trivial ?_
  intro w0 F0 I
  have zk1 := zchk_ok (Λ := laiOf Tryz.prog) q.num h1
  have zk2 := zchk_ok (Λ := laiOf Tryz.prog) (q.den : Int) (okZ_nat h2)
  have hg := zgcd_ok q.num (q.den : Int) h1 (okZ_nat h2)
  rw [Int.natAbs_natCast] at zk2 hg
  have hred : q.num.natAbs.gcd q.den = 1 := q.reduced
  rw [hred] at hg
  have dp := Nat.pos_of_ne_zero q.den_nz
  have hst : ∀ {x : AV}, x = x := rfl
  repeat (first|refine z2 ?_|refine z1 ?_|refine z3 ?_|refine z4 ?_|refine z5 ?_)
  refine zc (zk1) ?_
  repeat (first|refine z2 ?_|refine z1 ?_|refine z3 ?_|refine z4 ?_|refine z5 ?_)
  refine awp_at ⟨[(1, .adr 0 0 0), (3, .v (.bool (decide (¬ ((numS q.num.natAbs).size ≤ 400 ∧ (numS q.den).size ≤ 400)))))], [(0, [⟨2, [.v (.string (zS q.num)), .v (.string (zS (q.den : Int)))]⟩])], 1⟩ ?_ ?_
  · refine awp_cond rfl (fun h => ?_) (fun h => ?_)
    · have hn : ¬ (numS q.num.natAbs).size ≤ 400 := fun e => by rw [if_pos e] at h; cases h
      repeat (first|refine z2 ?_|refine z1 ?_|refine z3 ?_|refine z4 ?_|refine z5 ?_)
      refine le_sub ⟨rfl, ?_, trivial⟩ rfl rfl
      rw [decide_eq_true (show ¬ ((numS q.num.natAbs).size ≤ 400 ∧ (numS q.den).size ≤ 400) from fun e => hn e.1)]
      exact congrArg (fun b => some (AV.v (.bool b))) h
    · have hn : (numS q.num.natAbs).size ≤ 400 := by
        by_cases e : (numS q.num.natAbs).size ≤ 400
        · exact e
        · rw [if_neg e] at h; cases h
      repeat (first|refine z2 ?_|refine z1 ?_|refine z3 ?_|refine z4 ?_|refine z5 ?_)
      refine zc (zk2) ?_
      repeat (first|refine z2 ?_|refine z1 ?_|refine z3 ?_|refine z4 ?_|refine z5 ?_)
      refine le_sub ⟨rfl, ?_, trivial⟩ rfl rfl
      by_cases e : (numS q.den).size ≤ 400
      · rw [decide_eq_false (show ¬ ¬ ((numS q.num.natAbs).size ≤ 400 ∧ (numS q.den).size ≤ 400) from fun e' => e' ⟨hn, e⟩), if_pos e]; rfl
      · rw [decide_eq_true (show ¬ ((numS q.num.natAbs).size ≤ 400 ∧ (numS q.den).size ≤ 400) from fun e' => e e'.2), if_neg e]; rfl
  · refine awp_cond rfl (fun h => ?_) (fun h => ?_)
    · have h := of_decide_eq_true h
      rw [if_neg h]
      repeat (first|refine z2 ?_|refine z1 ?_|refine z3 ?_|refine z4 ?_|refine z5 ?_)
      (exact awp_ret ⟨.inl rfl, ret_one rfl (.refl (by first | trivial | exact nrl_u64s _))⟩)
    · have h : (numS q.num.natAbs).size ≤ 400 ∧ (numS q.den).size ≤ 400 := Classical.not_not.1 (of_decide_eq_false h)
      rw [if_pos h]
      repeat (first|refine z2 ?_|refine z1 ?_|refine z3 ?_|refine z4 ?_|refine z5 ?_)
      refine zc (sign_ok (q.den : Int) (okZ_nat h2)) ?_
      rw [Int.sign_eq_one_of_pos (by omega)]
      repeat (first|refine z2 ?_|refine z1 ?_|refine z3 ?_|refine z4 ?_|refine z5 ?_)
      refine awp_cond rfl (fun h => by cases h) (fun _ => ?_)
      repeat (first|refine z2 ?_|refine z1 ?_|refine z3 ?_|refine z4 ?_|refine z5 ?_)
      refine zc (hg) ?_
      repeat (first|refine z2 ?_|refine z1 ?_|refine z3 ?_|refine z4 ?_|refine z5 ?_)
      refine awp_cond rfl (fun h => ?_) (fun h => ?_)
      · have h : (!((numS 1).toList == (⟨#[49]⟩ : ByteArray).toList)) = true := h
        rw [num_beq1] at h
        cases h
      repeat (first|refine z2 ?_|refine z1 ?_|refine z3 ?_|refine z4 ?_|refine z5 ?_)
      (exact awp_ret ⟨.inl rfl, ret_one rfl (.refl (by first | trivial | exact nrl_u64s _))⟩)
theorem rshort_ok {Λ : Lai} (q : Rat) (h1 : okZ q.num) (h2 : okN q.den) : OkP Λ Tryz.prog 123 [rS q] (.v (.bool (decide ((numS q.num.natAbs).size ≤ 30 ∧ (numS q.den).size ≤ 30)))) := by
  refine okp_intro hT 14 Tryz.func123 rfl rfl rfl (Nat.le_of_ble_eq_true rfl) trivial ?_
  intro w0 F0 I
  have e0 : zS (q.den : Int) = numS q.den := zS_nat _
  have k1 : (numS q.num.natAbs).size ≤ 3500000000000 := h1
  have k2 : (numS q.den).size ≤ 3500000000000 := h2
  unfold rS
  rw [e0]
  repeat (first|refine z2 ?_|refine z1 ?_|refine z3 ?_|refine z4 ?_|refine z5 ?_)
  refine zc (abs_ok q.num h1) ?_
  repeat (first|refine z2 ?_|refine z1 ?_|refine z3 ?_|refine z4 ?_|refine z5 ?_)
  by_cases hc : (numS q.num.natAbs).size ≤ 30
  · have hdA : decide (((numS q.num.natAbs).size : Int) ≤ 30) = true := decide_eq_true (by omega)
    repeat (first|refine z2 ?_|refine z1 ?_|refine z3 ?_|refine z4 ?_|refine z5 ?_|refine z8 ?_|refine z9 ?_)
    refine awp_ret ⟨.inl rfl, ret_one rfl ?_⟩
    have e : decide ((numS q.num.natAbs).size ≤ 30 ∧ (numS q.den).size ≤ 30) = cond (decide (((numS q.num.natAbs).size : Int) ≤ 30)) (decide (((numS q.den).size : Int) ≤ 30)) false := by
      rw [hdA, cond_true]
      by_cases h : (numS q.den).size ≤ 30
      · rw [decide_eq_true ⟨hc, h⟩, decide_eq_true (by omega)]
      · rw [decide_eq_false (fun e => h e.2), decide_eq_false (by omega)]
    rw [e]
    exact .refl trivial
  · have hdA : decide (((numS q.num.natAbs).size : Int) ≤ 30) = false := decide_eq_false (by omega)
    repeat (first|refine z2 ?_|refine z1 ?_|refine z3 ?_|refine z4 ?_|refine z5 ?_|refine z8 ?_|refine z9 ?_)
    refine al_pick rfl rfl rfl (v := decide (((numS q.num.natAbs).size : Int) ≤ 30)) (r := .v (.bool false)) (by rw [hdA]; rfl) rfl rfl ?_
    repeat (first|refine z2 ?_|refine z1 ?_|refine z3 ?_|refine z4 ?_|refine z5 ?_)
    rw [decide_eq_false (show ¬ ((numS q.num.natAbs).size ≤ 30 ∧ (numS q.den).size ≤ 30) from fun h => hc h.1)]
    (exact awp_ret ⟨.inl rfl, ret_one rfl (.refl (by first | trivial | exact nrl_u64s _))⟩)
end Go.Proofs.YtlbhgejbfhhipaaGreatDoor

/- Walks: primes, intervals, rows. -/
namespace Go.Proofs.YtlbhgejbfhhipaaGreatDoor
open Go Go.Am Go.Lib Go.Sp Z1 Z2 Z3 Z4 Z5 Z6
/-- Ints as cells, and a row of them that is only read. -/
def i64s (l : List Int) : List AV := l.map fun n => AV.v (.int .i64 n)
def rowS (l : List Int) : AV := .sl 1 l.length (i64s l)
theorem nrl_i64s (l : List Int) : nrl (i64s l) := nrl_v _ l
theorem hfl_i64s (l : List Int) : hfl (i64s l) := hfl_v _ l
theorem i64s_len (l : List Int) : (i64s l).length = l.length := by simp [i64s]
theorem i64s_drop {l : List Int} {i j : Nat} (h : i = j) (hj : j < l.length) : ((i64s l).drop i)[0]? = some (.v (.int .i64 l[j])) := by
  subst h; simp [i64s, hj]
theorem nr_rowS (l : List Int) : nr (rowS l) := by simp only [rowS, nr]; exact nrl_i64s l
/-- Rows that are only read. -/
def rowsC (M : List (List Int)) : List AV := M.map rowS
def matS (M : List (List Int)) : AV := .sl 1 M.length (rowsC M)
theorem nrl_rowsC : ∀ M : List (List Int), nrl (rowsC M)
  | [] => trivial
  | r :: M => ⟨nr_rowS r, nrl_rowsC M⟩
theorem nr_matS (M : List (List Int)) : nr (matS M) := by simp only [matS, nr]; exact nrl_rowsC M
theorem rowsC_drop {M : List (List Int)} {i j : Nat} (h : i = j) (hj : j < M.length) : ((rowsC M).drop i)[0]? = some (rowS M[j]) := by
  subst h; simp [rowsC, hj]
def ipGo (n : Int) : Nat → Nat → Bool
  | _, 0 => true
  | d, f + 1 => if (d : Int) * d ≤ n then (if n.tmod d == 0 then false else ipGo n (d + 1) f) else true
def isP (n : Int) : Bool := if n < 2 ∨ 97 < n then false else ipGo n 2 10
theorem isprime_ok {Λ : Lai} (n : Int) (hn : -9223372036854775808 ≤ n ∧ n ≤ 9223372036854775807) : OkP Λ Tryz.prog 104 [.v (.int .i64 n)] (.v (.bool (isP n))) := by
  refine okp_intro hT 21 Tryz.func104 rfl rfl rfl (Nat.le_of_ble_eq_true rfl) trivial ?_
  intro w0 F0 I
  (repeat (first | refine awp_seq ?_ | refine awp_block ?_ | refine awp_skip ?_))
  refine awp_at ⟨[(0, .v (.int .i64 n))], [], 0⟩ ?_ ?_
  · repeat (first|refine z2 ?_|refine z1 ?_|refine z3 ?_|refine z4 ?_|refine z5 ?_)
    exact le_sub ⟨rfl, trivial⟩ rfl rfl
  (repeat (first | refine awp_seq ?_ | refine awp_block ?_ | refine awp_skip ?_))
  refine awp_at ⟨[(0, .v (.int .i64 n)), (9, .v (.bool (decide (n < 2 ∨ 97 < n))))], [], 0⟩ ?_ ?_
  · refine awp_region ?_
    by_cases h : n < 2
    · have hdA : decide (n < 2) = true := decide_eq_true h
      repeat (first|refine z2 ?_|refine z1 ?_|refine z3 ?_|refine z4 ?_|refine z5 ?_|refine z8 ?_|refine z9 ?_)
      refine al_pick rfl rfl rfl (v := decide (n < 2)) (r := .v (.bool true)) (by rw [hdA]; rfl) rfl rfl ?_
      repeat (first|refine z2 ?_|refine z1 ?_|refine z3 ?_|refine z4 ?_|refine z5 ?_)
      refine le_sub ⟨rfl, ?_, trivial⟩ rfl rfl
      rw [decide_eq_true (.inl h : n < 2 ∨ 97 < n)]; rfl
    · have hdA : decide (n < 2) = false := decide_eq_false h
      repeat (first|refine z2 ?_|refine z1 ?_|refine z3 ?_|refine z4 ?_|refine z5 ?_|refine z8 ?_|refine z9 ?_)
      refine le_sub ⟨rfl, ?_, trivial⟩ rfl rfl
      show some (AV.v (.bool (cond (decide (n < 2)) true (decide (n > 97))))) = _
      rw [hdA, cond_false]
      congr 3
      by_cases h2 : 97 < n
      · rw [decide_eq_true (show n > 97 from h2), decide_eq_true (.inr h2 : n < 2 ∨ 97 < n)]
      · rw [decide_eq_false (show ¬ n > 97 from h2), decide_eq_false (show ¬ (n < 2 ∨ 97 < n) from fun e => e.elim h h2)]
  refine awp_cond rfl (fun h => ?_) (fun h => ?_)
  · have h := of_decide_eq_true h
    have e : isP n = false := by unfold isP; rw [if_pos h]
    repeat (first|refine z2 ?_|refine z1 ?_|refine z3 ?_|refine z4 ?_|refine z5 ?_)
    refine awp_ret ⟨.inl rfl, ret_one rfl ?_⟩
    rw [e]
    exact .refl trivial
  have h := of_decide_eq_false h
  have e0 : isP n = ipGo n 2 10 := by unfold isP; rw [if_neg h]
  repeat (first|refine z2 ?_|refine z1 ?_|refine z3 ?_|refine z4 ?_|refine z5 ?_)
  refine awp_loop (fun x : { x : Nat // 2 ≤ x ∧ x ≤ 10 ∧ isP n = ipGo n x (12 - x) } => ⟨[(0, .v (.int .i64 n)), (3, .v (.int .i64 x.1))], [], 0⟩) (fun x => 11 - x.1) ⟨2, by omega, by omega, e0⟩ (le_sub ⟨rfl, rfl, trivial⟩ rfl rfl) ?_
  rintro ⟨d, h2, h10, he⟩
  simp only at h2 h10 he ⊢
  obtain ⟨f, hf⟩ : ∃ f, 12 - d = f + 1 := ⟨11 - d, by omega⟩
  have hdd : (d : Int) * (d : Int) ≤ 100 ∧ 0 ≤ (d : Int) * (d : Int) := by
    have := Nat.mul_le_mul h10 h10
    rw [← Int.natCast_mul]
    omega
  rw [hf, ipGo] at he
  repeat (first|refine z2 ?_|refine z1 ?_|refine z3 ?_|refine z4 ?_|refine z5 ?_)
  refine awp_cond rfl (fun h1 => ?_) (fun h1 => ?_)
  · have h1 := of_decide_eq_true h1
    rw [if_pos h1] at he
    have hd9 : d ≤ 9 := by
      rcases Nat.lt_or_ge 9 d with h3 | h3
      · have : d = 10 := by omega
        subst this
        simp at h1
        omega
      · exact h3
    repeat (first|refine z2 ?_|refine z1 ?_|refine z3 ?_|refine z4 ?_|refine z5 ?_)
    refine awp_cond rfl (fun h3 => ?_) (fun h3 => ?_)
    · rw [if_pos h3] at he
      repeat (first|refine z2 ?_|refine z1 ?_|refine z3 ?_|refine z4 ?_|refine z5 ?_)
      refine awp_ret ⟨.inl rfl, ret_one rfl ?_⟩
      rw [he]
      exact .refl trivial
    · rw [if_neg (by rw [h3]; simp)] at he
      repeat (first|refine z2 ?_|refine z1 ?_|refine z3 ?_|refine z4 ?_|refine z5 ?_)
      refine ⟨⟨d + 1, by omega, by omega, ?_⟩, le_sub ⟨rfl, rfl, trivial⟩ rfl rfl, by show 11 - (d + 1) < 11 - d; omega⟩
      rw [he, show 12 - (d + 1) = f by omega]
  · have h1 := of_decide_eq_false h1
    rw [if_neg h1] at he
    repeat (first|refine z2 ?_|refine z1 ?_|refine z3 ?_|refine z4 ?_|refine z5 ?_)
    refine awp_ret ⟨.inl rfl, ret_one rfl ?_⟩
    rw [he]
    exact .refl trivial
/-- The error of the primes l behind a prime before them. -/
def pcL : Option Int → List Int → Int
  | _, [] => 0
  | p, x :: r => if isP x = false then 25 else if p.any (fun y => decide (x ≤ y)) then 6 else pcL (some x) r
def primeChk (l : List Int) : Int := if l.length = 0 then 13 else if 6 < l.length then 4 else pcL none l
def small64L (l : List Int) : Prop := ∀ x ∈ l, -9223372036854775808 ≤ x ∧ x ≤ 9223372036854775807
set_option maxRecDepth 10000 in
theorem primechk_ok {Λ : Lai} (l : List Int) (hl : small64L l) (hlen : l.length ≤ 1000000000) : OkP Λ Tryz.prog 58 [rowS l] (.v (.int .i64 (primeChk l))) := by
  refine okp_intro hT 35 Tryz.func58 rfl rfl rfl (Nat.le_of_ble_eq_true rfl) trivial ?_
  intro w0 F0 I
  unfold rowS
  repeat (first|refine z2 ?_|refine z1 ?_|refine z3 ?_|refine z4 ?_|refine z5 ?_)
  refine awp_cond rfl (fun h => ?_) (fun h => ?_)
  · have h : ((l.length : Nat) : Int) = 0 := by simpa using h
    repeat (first|refine z2 ?_|refine z1 ?_|refine z3 ?_|refine z4 ?_|refine z5 ?_)
    refine awp_ret ⟨.inl rfl, ret_one rfl ?_⟩
    unfold primeChk
    rw [if_pos (by omega)]
    exact .refl trivial
  have h : ((l.length : Nat) : Int) ≠ 0 := by simpa using h
  repeat (first|refine z2 ?_|refine z1 ?_|refine z3 ?_|refine z4 ?_|refine z5 ?_)
  refine awp_cond rfl (fun h1 => ?_) (fun h1 => ?_)
  · have h1 := of_decide_eq_true h1
    repeat (first|refine z2 ?_|refine z1 ?_|refine z3 ?_|refine z4 ?_|refine z5 ?_)
    refine awp_ret ⟨.inl rfl, ret_one rfl ?_⟩
    unfold primeChk
    rw [if_neg (by omega), if_pos (by omega)]
    exact .refl trivial
  have h1 := of_decide_eq_false h1
  have e0 : primeChk l = pcL none l := by unfold primeChk; rw [if_neg (by omega), if_neg (by omega)]
  repeat (first|refine z2 ?_|refine z1 ?_|refine z3 ?_|refine z4 ?_|refine z5 ?_)
  refine awp_loop (fun x : { x : Nat // x ≤ l.length ∧ primeChk l = pcL (if x = 0 then none else l[x - 1]?) (l.drop x) } => ⟨[(0, .sl 1 l.length (i64s l)), (13, .sl 1 l.length (i64s l)), (14, .v (.int .i64 l.length)), (15, .v (.int .i64 x.1))], [], 0⟩) (fun x => l.length - x.1) ⟨0, Nat.zero_le _, e0⟩ (le_sub ⟨rfl, rfl, rfl, rfl, trivial⟩ rfl rfl) ?_
  rintro ⟨j, hj, he⟩
  simp only at hj he ⊢
  repeat (first|refine z2 ?_|refine z1 ?_|refine z3 ?_|refine z4 ?_|refine z5 ?_)
  refine awp_cond rfl (fun h2 => ?_) (fun h2 => ?_)
  · have hjl : j < l.length := by have := of_decide_eq_true h2; omega
    have hx := hl l[j] (List.getElem_mem hjl)
    rw [List.drop_eq_getElem_cons hjl, pcL] at he
    have hip := isprime_ok (Λ := Λ) l[j] hx
    repeat (first|refine z2 ?_|refine z1 ?_|refine z3 ?_|refine z4 ?_|refine z5 ?_)
    refine al_pure hT rfl (pure_load_pt rfl rfl rfl (i64s_drop (j := j) (by omega) hjl)) rfl rfl True.intro ?_
    repeat (first|refine z2 ?_|refine z1 ?_|refine z3 ?_|refine z4 ?_|refine z5 ?_)
    refine zc (hip) ?_
    repeat (first|refine z2 ?_|refine z1 ?_|refine z3 ?_|refine z4 ?_|refine z5 ?_)
    refine awp_cond rfl (fun h3 => ?_) (fun h3 => ?_)
    · have h3 : isP l[j] = false := by simpa using h3
      rw [if_pos h3] at he
      repeat (first|refine z2 ?_|refine z1 ?_|refine z3 ?_|refine z4 ?_|refine z5 ?_)
      refine awp_ret ⟨.inl rfl, ret_one rfl ?_⟩
      rw [he]
      exact .refl trivial
    · have h3 : isP l[j] = true := by simpa using h3
      rw [if_neg (by rw [h3]; simp)] at he
      refine awp_skip ?_
      (repeat (first | refine awp_seq ?_ | refine awp_block ?_ | refine awp_skip ?_))
      refine awp_at ⟨[(0, .sl 1 l.length (i64s l)), (13, .sl 1 l.length (i64s l)), (14, .v (.int .i64 l.length)), (15, .v (.int .i64 j)), (33, .v (.bool ((if j = 0 then none else l[j - 1]?).any (fun y => decide (l[j] ≤ y)))))], [], 0⟩ ?_ ?_
      · refine awp_region ?_
        by_cases hj0 : j = 0
        · have hdA : decide ((j : Int) > 0) = false := decide_eq_false (by omega)
          repeat (first|refine z2 ?_|refine z1 ?_|refine z3 ?_|refine z4 ?_|refine z5 ?_|refine z8 ?_|refine z9 ?_)
          refine al_pick rfl rfl rfl (v := decide ((j : Int) > 0)) (r := .v (.bool false)) (by rw [hdA]; rfl) rfl rfl ?_
          repeat (first|refine z2 ?_|refine z1 ?_|refine z3 ?_|refine z4 ?_|refine z5 ?_)
          refine le_sub ⟨rfl, rfl, rfl, rfl, ?_, trivial⟩ rfl rfl
          rw [if_pos hj0]; rfl
        · have hdA : decide ((j : Int) > 0) = true := decide_eq_true (by omega)
          repeat (first|refine z2 ?_|refine z1 ?_|refine z3 ?_|refine z4 ?_|refine z5 ?_|refine z8 ?_|refine z9 ?_)
          refine al_on hT rfl rfl rfl (by first | (rw [hdA]; rfl) | (rw [hdB]; rfl)) (pure_load_pt rfl rfl rfl (i64s_drop (j := j - 1) (by omega) (by omega))) rfl rfl True.intro ?_
          repeat (first|refine z2 ?_|refine z1 ?_|refine z3 ?_|refine z4 ?_|refine z5 ?_|refine z8 ?_|refine z9 ?_)
          refine le_sub ⟨rfl, rfl, rfl, rfl, ?_, trivial⟩ rfl rfl
          refine pick_tt _ _ _ hdA ?_
          rw [if_neg hj0, List.getElem?_eq_getElem (by omega)]
          rfl
      · refine awp_cond rfl (fun h4 => ?_) (fun h4 => ?_)
        · rw [if_pos h4] at he
          repeat (first|refine z2 ?_|refine z1 ?_|refine z3 ?_|refine z4 ?_|refine z5 ?_)
          refine awp_ret ⟨.inl rfl, ret_one rfl ?_⟩
          rw [he]
          exact .refl trivial
        · rw [if_neg (by rw [h4]; simp)] at he
          repeat (first|refine z2 ?_|refine z1 ?_|refine z3 ?_|refine z4 ?_|refine z5 ?_)
          refine ⟨⟨j + 1, hjl, ?_⟩, le_sub ⟨rfl, rfl, rfl, rfl, trivial⟩ rfl rfl, by show l.length - (j + 1) < l.length - j; omega⟩
          rw [he, if_neg (by omega), Nat.add_sub_cancel, List.getElem?_eq_getElem hjl]
  · have hjl : j = l.length := by have := of_decide_eq_false h2; omega
    subst hjl
    rw [List.drop_length, pcL] at he
    repeat (first|refine z2 ?_|refine z1 ?_|refine z3 ?_|refine z4 ?_|refine z5 ?_)
    refine awp_ret ⟨.inl rfl, ret_one rfl ?_⟩
    rw [he]
    exact .refl trivial
end Go.Proofs.YtlbhgejbfhhipaaGreatDoor

/- Walks: rows searched and checked. -/
namespace Go.Proofs.YtlbhgejbfhhipaaGreatDoor
open Go Go.Am Go.Lib Go.Sp Z1 Z2 Z3 Z4 Z5 Z6
/-- The first place where a test holds, or -1. -/
def idxL {α : Type} (p : α → Bool) : List α → Int
  | [] => -1
  | x :: l => if p x then 0 else (if idxL p l = -1 then -1 else idxL p l + 1)
theorem idxL_ge {α : Type} (p : α → Bool) : ∀ l : List α, -1 ≤ idxL p l ∧ idxL p l < l.length
  | [] => by simp [idxL]
  | x :: l => by
    have := idxL_ge p l
    unfold idxL
    simp only [List.length_cons]
    split
    · omega
    · split <;> omega
theorem idxL_any {α : Type} (p : α → Bool) : ∀ l : List α, (0 ≤ idxL p l ↔ l.any p = true)
  | [] => by simp [idxL]
  | x :: l => by
    have h1 := idxL_any p l
    have h2 := idxL_ge p l
    unfold idxL
    by_cases h : p x = true
    · simp [h]
    · rw [if_neg h]
      have h' : p x = false := by simpa using h
      rw [List.any_cons, h', Bool.false_or, ← h1]
      split <;> omega
theorem idxL_at {α : Type} (p : α → Bool) : ∀ (l : List α) (j : Nat), j ≤ l.length → (∀ i (h : i < l.length), i < j → p l[i] = false) → (∀ h : j < l.length, p l[j] = true → idxL p l = j) ∧ (j = l.length → idxL p l = -1)
  | [], j, hj, _ => by simp at hj; subst hj; simp [idxL]
  | x :: l, 0, _, _ => by
    refine ⟨fun _ h => ?_, fun h => by simp at h⟩
    simp only [List.getElem_cons_zero] at h
    unfold idxL
    rw [if_pos h]; rfl
  | x :: l, j + 1, hj, hf => by
    have hx : p x = false := hf 0 (by simp) (by omega)
    obtain ⟨h1, h2⟩ := idxL_at p l j (by simpa using hj) (fun i hi hij => hf (i + 1) (by simpa using hi) (by omega))
    refine ⟨fun h hp => ?_, fun h => ?_⟩
    · have := h1 (by simpa using h) (by simpa using hp)
      unfold idxL
      rw [if_neg (by rw [hx]; simp), this, if_neg (by omega)]
      simp
    · have := h2 (by simpa using h)
      unfold idxL
      rw [if_neg (by rw [hx]; simp), this, if_pos rfl]
theorem idx_ok {Λ : Lai} (l : List Int) (g : Nat) (p : Int → Bool) (hlen : l.length ≤ 1000000000000) (h : ∀ x ∈ l, OkP Λ Tryz.prog g [.v (.int .i64 x)] (.v (.bool (p x)))) : OkP Λ Tryz.prog 116 [rowS l, .fn g []] (.v (.int .i64 (idxL p l))) := by
  refine okp_intro hT 19 Tryz.func116 rfl rfl rfl (Nat.le_of_ble_eq_true rfl) trivial ?_
  intro w0 F0 I
  unfold rowS
  repeat (first|refine z2 ?_|refine z1 ?_|refine z3 ?_|refine z4 ?_|refine z5 ?_)
  refine awp_loop (fun x : { x : Nat // x ≤ l.length ∧ ∀ i (hi : i < l.length), i < x → p l[i] = false } => ⟨[(0, .sl 1 l.length (i64s l)), (1, .fn g []), (7, .v (.int .i64 l.length)), (8, .v (.int .i64 x.1))], [], 0⟩) (fun x => l.length - x.1) ⟨0, Nat.zero_le _, fun i _ hi => by omega⟩ (le_sub ⟨rfl, rfl, rfl, rfl, trivial⟩ rfl rfl) ?_
  rintro ⟨j, hj, hf⟩
  simp only at hj hf ⊢
  obtain ⟨a1, a2⟩ := idxL_at p l j hj hf
  repeat (first|refine z2 ?_|refine z1 ?_|refine z3 ?_|refine z4 ?_|refine z5 ?_)
  refine awp_cond rfl (fun h2 => ?_) (fun h2 => ?_)
  · have hjl : j < l.length := by have := of_decide_eq_true h2; omega
    repeat (first|refine z2 ?_|refine z1 ?_|refine z3 ?_|refine z4 ?_|refine z5 ?_)
    refine al_pure hT rfl (pure_load_pt rfl rfl rfl (i64s_drop (j := j) (by omega) hjl)) rfl rfl True.intro ?_
    repeat (first|refine z2 ?_|refine z1 ?_|refine z3 ?_|refine z4 ?_|refine z5 ?_)
    refine zc (h l[j] (List.getElem_mem hjl)) ?_
    repeat (first|refine z2 ?_|refine z1 ?_|refine z3 ?_|refine z4 ?_|refine z5 ?_)
    refine awp_cond rfl (fun h3 => ?_) (fun h3 => ?_)
    · repeat (first|refine z2 ?_|refine z1 ?_|refine z3 ?_|refine z4 ?_|refine z5 ?_)
      refine awp_ret ⟨.inl rfl, ret_one rfl ?_⟩
      rw [a1 hjl h3]
      exact .refl trivial
    · repeat (first|refine z2 ?_|refine z1 ?_|refine z3 ?_|refine z4 ?_|refine z5 ?_)
      refine ⟨⟨j + 1, hjl, fun i hi hij => ?_⟩, le_sub ⟨rfl, rfl, rfl, rfl, trivial⟩ rfl rfl, by show l.length - (j + 1) < l.length - j; omega⟩
      rcases Nat.lt_or_ge i j with h4 | h4
      · exact hf i hi h4
      · have : i = j := by omega
        subst this
        exact h3
  · have hjl : j = l.length := by have := of_decide_eq_false h2; omega
    repeat (first|refine z2 ?_|refine z1 ?_|refine z3 ?_|refine z4 ?_|refine z5 ?_)
    refine awp_ret ⟨.inl rfl, ret_one rfl ?_⟩
    rw [a2 hjl]
    exact .refl trivial
theorem contains_ok {Λ : Lai} (l : List Int) (g : Nat) (p : Int → Bool) (hlen : l.length ≤ 1000000000000) (h : ∀ x ∈ l, OkP Λ Tryz.prog g [.v (.int .i64 x)] (.v (.bool (p x)))) : OkP Λ Tryz.prog 76 [rowS l, .fn g []] (.v (.bool (l.any p))) := by
  refine okp_intro hT 9 Tryz.func76 rfl rfl rfl (Nat.le_of_ble_eq_true rfl) trivial ?_
  intro w0 F0 I
  have e : decide (idxL p l ≥ 0) = l.any p := by
    have := idxL_any p l
    by_cases h : l.any p = true
    · rw [h, decide_eq_true (this.2 h)]
    · rw [decide_eq_false (fun h2 => h (this.1 h2))]
      simpa using h
  repeat (first|refine z2 ?_|refine z1 ?_|refine z3 ?_|refine z4 ?_|refine z5 ?_)
  refine zc (idx_ok l g p hlen h) ?_
  repeat (first|refine z2 ?_|refine z1 ?_|refine z3 ?_|refine z4 ?_|refine z5 ?_)
  refine awp_ret ⟨.inl rfl, ret_one rfl ?_⟩
  rw [← e]
  exact .refl trivial
def fitsB (n : Int) : Bool := decide (-1000000000 ≤ n ∧ n ≤ 1000000000)
theorem fits_ok {Λ : Lai} (n : Int) : OkP Λ Tryz.prog 78 [.v (.int .i64 n)] (.v (.bool (fitsB n))) := by
  refine okp_intro hT 9 Tryz.func78 rfl rfl rfl (Nat.le_of_ble_eq_true rfl) trivial ?_
  intro w0 F0 I
  by_cases h : n ≥ -1000000000
  · have hdA : decide (n ≥ -1000000000) = true := decide_eq_true h
    repeat (first|refine z2 ?_|refine z1 ?_|refine z3 ?_|refine z4 ?_|refine z5 ?_|refine z8 ?_|refine z9 ?_)
    refine awp_ret ⟨.inl rfl, ret_one rfl ?_⟩
    have e : fitsB n = cond (decide (n ≥ -1000000000)) (decide (n ≤ 1000000000)) false := by
      unfold fitsB
      rw [hdA, cond_true]
      by_cases h2 : n ≤ 1000000000
      · rw [decide_eq_true h2, decide_eq_true ⟨h, h2⟩]
      · rw [decide_eq_false h2, decide_eq_false (fun e => h2 e.2)]
    rw [e]
    exact .refl trivial
  · have hdA : decide (n ≥ -1000000000) = false := decide_eq_false h
    repeat (first|refine z2 ?_|refine z1 ?_|refine z3 ?_|refine z4 ?_|refine z5 ?_|refine z8 ?_|refine z9 ?_)
    refine al_pick rfl rfl rfl (v := decide (n ≥ -1000000000)) (r := .v (.bool false)) (by rw [hdA]; rfl) rfl rfl ?_
    repeat (first|refine z2 ?_|refine z1 ?_|refine z3 ?_|refine z4 ?_|refine z5 ?_)
    refine awp_ret ⟨.inl rfl, ret_one rfl ?_⟩
    have e : fitsB n = false := by unfold fitsB; rw [decide_eq_false (fun e => h e.1)]
    rw [e]
    exact .refl trivial
theorem notfits_ok {Λ : Lai} (n : Int) : OkP Λ Tryz.prog 77 [.v (.int .i64 n)] (.v (.bool (!(fitsB n)))) := by
  refine okp_intro hT 6 Tryz.func77 rfl rfl rfl (Nat.le_of_ble_eq_true rfl) trivial ?_
  intro w0 F0 I
  repeat (first|refine z2 ?_|refine z1 ?_|refine z3 ?_|refine z4 ?_|refine z5 ?_)
  refine zc (fits_ok n) ?_
  repeat (first|refine z2 ?_|refine z1 ?_|refine z3 ?_|refine z4 ?_|refine z5 ?_)
  (exact awp_ret ⟨.inl rfl, ret_one rfl (.refl (by first | trivial | exact nrl_u64s _))⟩)
theorem great_ok {Λ : Lai} (n : Int) : OkP Λ Tryz.prog 254 [.v (.int .i64 n)] (.v (.bool (!(fitsB n)))) := by
  refine okp_intro hT 9 Tryz.func254 rfl rfl rfl (Nat.le_of_ble_eq_true rfl) trivial ?_
  intro w0 F0 I
  by_cases h : n > 1000000000
  · have hdA : decide (n > 1000000000) = true := decide_eq_true h
    repeat (first|refine z2 ?_|refine z1 ?_|refine z3 ?_|refine z4 ?_|refine z5 ?_|refine z8 ?_|refine z9 ?_)
    refine al_pick rfl rfl rfl (v := decide (n > 1000000000)) (r := .v (.bool true)) (by rw [hdA]; rfl) rfl rfl ?_
    repeat (first|refine z2 ?_|refine z1 ?_|refine z3 ?_|refine z4 ?_|refine z5 ?_)
    refine awp_ret ⟨.inl rfl, ret_one rfl ?_⟩
    have e : fitsB n = false := by unfold fitsB; rw [decide_eq_false (fun e => by omega)]
    rw [e]
    exact .refl trivial
  · have hdA : decide (n > 1000000000) = false := decide_eq_false h
    repeat (first|refine z2 ?_|refine z1 ?_|refine z3 ?_|refine z4 ?_|refine z5 ?_|refine z8 ?_|refine z9 ?_)
    refine awp_ret ⟨.inl rfl, ret_one rfl ?_⟩
    have e : (!(fitsB n)) = cond (decide (n > 1000000000)) true (decide (n < -1000000000)) := by
      unfold fitsB
      rw [hdA, cond_false]
      by_cases h2 : n < -1000000000
      · rw [decide_eq_true h2, decide_eq_false (fun e => by omega)]; rfl
      · rw [decide_eq_false h2, decide_eq_true (by omega)]; rfl
    rw [e]
    exact .refl trivial
def rowChk (l : List Int) : Int := if 64 < l.length ∨ l.any (fun n => !(fitsB n)) = true then 4 else 0
theorem rowchk_ok {Λ : Lai} (l : List Int) (hlen : l.length ≤ 1000000000000) : OkP Λ Tryz.prog 29 [rowS l] (.v (.int .i64 (rowChk l))) := by
  refine okp_intro hT 10 Tryz.func29 rfl rfl rfl (Nat.le_of_ble_eq_true rfl) trivial ?_
  intro w0 F0 I
  have hc := contains_ok (Λ := Λ) l 77 (fun n => !(fitsB n)) hlen (fun x _ => notfits_ok x)
  (repeat (first | refine awp_seq ?_ | refine awp_block ?_ | refine awp_skip ?_))
  refine awp_at ⟨[(0, rowS l)], [], 0⟩ ?_ ?_
  · repeat (first|refine z2 ?_|refine z1 ?_|refine z3 ?_|refine z4 ?_|refine z5 ?_)
    exact le_sub ⟨rfl, trivial⟩ rfl rfl
  (repeat (first | refine awp_seq ?_ | refine awp_block ?_ | refine awp_skip ?_))
  refine awp_at ⟨[(9, .v (.bool (decide (64 < l.length ∨ l.any (fun n => !(fitsB n)) = true))))], [], 0⟩ ?_ ?_
  · refine awp_region ?_
    unfold rowS
    by_cases h : 64 < l.length
    · have hdA : decide ((l.length : Int) > 64) = true := decide_eq_true (by omega)
      repeat (first|refine z2 ?_|refine z1 ?_|refine z3 ?_|refine z4 ?_|refine z5 ?_|refine z8 ?_|refine z9 ?_)
      refine al_pick rfl rfl rfl (v := decide ((l.length : Int) > 64)) (r := .v (.bool true)) (by rw [hdA]; rfl) rfl rfl ?_
      repeat (first|refine z2 ?_|refine z1 ?_|refine z3 ?_|refine z4 ?_|refine z5 ?_)
      refine le_sub ⟨?_, trivial⟩ rfl rfl
      rw [decide_eq_true (.inl h : 64 < l.length ∨ l.any (fun n => !(fitsB n)) = true)]; rfl
    · have hdA : decide ((l.length : Int) > 64) = false := decide_eq_false (by omega)
      repeat (first|refine z2 ?_|refine z1 ?_|refine z3 ?_|refine z4 ?_|refine z5 ?_|refine z8 ?_|refine z9 ?_)
      refine al_on_call hc rfl rfl rfl ?_ rfl rfl rfl (.cons (.refl (nrl_i64s l)) (.cons (.refl trivial) .nil)) (.inl trivial) rfl rfl ?_
      focus (rw [hdA]; rfl)
      repeat (first|refine z2 ?_|refine z1 ?_|refine z3 ?_|refine z4 ?_|refine z5 ?_|refine z8 ?_|refine z9 ?_)
      refine le_sub ⟨?_, trivial⟩ rfl rfl
      show some (AV.v (.bool (cond (decide ((l.length : Int) > 64)) true (l.any (fun n => !(fitsB n)))))) = _
      rw [hdA, cond_false]
      congr 3
      by_cases h2 : l.any (fun n => !(fitsB n)) = true
      · rw [h2, decide_eq_true (.inr rfl)]
      · rw [decide_eq_false (fun e => e.elim h h2)]; simpa using h2
  refine awp_cond rfl (fun h => ?_) (fun h => ?_)
  · have h := of_decide_eq_true h
    repeat (first|refine z2 ?_|refine z1 ?_|refine z3 ?_|refine z4 ?_|refine z5 ?_)
    refine awp_ret ⟨.inl rfl, ret_one rfl ?_⟩
    unfold rowChk
    rw [if_pos h]
    exact .refl trivial
  · have h := of_decide_eq_false h
    repeat (first|refine z2 ?_|refine z1 ?_|refine z3 ?_|refine z4 ?_|refine z5 ?_)
    refine awp_ret ⟨.inl rfl, ret_one rfl ?_⟩
    unfold rowChk
    rw [if_neg h]
    exact .refl trivial
end Go.Proofs.YtlbhgejbfhhipaaGreatDoor

/- Walks: matrices checked. -/
namespace Go.Proofs.YtlbhgejbfhhipaaGreatDoor
open Go Go.Am Go.Lib Go.Sp Z1 Z2 Z3 Z4 Z5 Z6
def rowsChk (n : Int) : List (List Int) → Int
  | [] => 0
  | r :: M => if rowChk r ≠ 0 then rowChk r else if (r.length : Int) ≠ n then 5 else rowsChk n M
theorem rowschk_ok {Λ : Lai} (M : List (List Int)) (n : Int) (hM : M.length ≤ 1000000000000) (hlen : ∀ r ∈ M, r.length ≤ 1000000000000) : OkP Λ Tryz.prog 214 [matS M, .v (.int .i64 n)] (.v (.int .i64 (rowsChk n M))) := by
  refine okp_intro hT 24 Tryz.func214 rfl rfl rfl (Nat.le_of_ble_eq_true rfl) trivial ?_
  intro w0 F0 I
  unfold matS
  repeat (first|refine z2 ?_|refine z1 ?_|refine z3 ?_|refine z4 ?_|refine z5 ?_)
  refine awp_loop (fun x : { x : Nat // x ≤ M.length ∧ rowsChk n M = rowsChk n (M.drop x) } => ⟨[(1, .v (.int .i64 n)), (8, .sl 1 M.length (rowsC M)), (9, .v (.int .i64 M.length)), (10, .v (.int .i64 x.1))], [], 0⟩) (fun x => M.length - x.1) ⟨0, Nat.zero_le _, rfl⟩ (le_sub ⟨rfl, rfl, rfl, rfl, trivial⟩ rfl rfl) ?_
  rintro ⟨j, hj, he⟩
  simp only at hj he ⊢
  repeat (first|refine z2 ?_|refine z1 ?_|refine z3 ?_|refine z4 ?_|refine z5 ?_)
  refine awp_cond rfl (fun h2 => ?_) (fun h2 => ?_)
  · have hjl : j < M.length := by have := of_decide_eq_true h2; omega
    rw [List.drop_eq_getElem_cons hjl, rowsChk] at he
    have hrl := hlen M[j] (List.getElem_mem hjl)
    repeat (first|refine z2 ?_|refine z1 ?_|refine z3 ?_|refine z4 ?_|refine z5 ?_)
    refine al_pure hT rfl (pure_load_pt rfl rfl rfl (rowsC_drop (j := j) (by omega) hjl)) rfl rfl True.intro ?_
    repeat (first|refine z2 ?_|refine z1 ?_|refine z3 ?_|refine z4 ?_|refine z5 ?_)
    refine zc (rowchk_ok M[j] hrl) ?_
    repeat (first|refine z2 ?_|refine z1 ?_|refine z3 ?_|refine z4 ?_|refine z5 ?_)
    refine awp_cond rfl (fun h3 => ?_) (fun h3 => ?_)
    · have h3 : rowChk M[j] ≠ 0 := by simpa using h3
      rw [if_pos h3] at he
      repeat (first|refine z2 ?_|refine z1 ?_|refine z3 ?_|refine z4 ?_|refine z5 ?_)
      refine awp_ret ⟨.inl rfl, ret_one rfl ?_⟩
      rw [he]
      exact .refl trivial
    · have h3 : rowChk M[j] = 0 := by simpa using h3
      rw [if_neg (fun e => e h3)] at he
      unfold rowS
      repeat (first|refine z2 ?_|refine z1 ?_|refine z3 ?_|refine z4 ?_|refine z5 ?_)
      refine awp_cond rfl (fun h4 => ?_) (fun h4 => ?_)
      · have h4 : (M[j].length : Int) ≠ n := by simpa using h4
        rw [if_pos h4] at he
        repeat (first|refine z2 ?_|refine z1 ?_|refine z3 ?_|refine z4 ?_|refine z5 ?_)
        refine awp_ret ⟨.inl rfl, ret_one rfl ?_⟩
        rw [he]
        exact .refl trivial
      · have h4 : (M[j].length : Int) = n := by simpa using h4
        rw [if_neg (fun e => e h4)] at he
        repeat (first|refine z2 ?_|refine z1 ?_|refine z3 ?_|refine z4 ?_|refine z5 ?_)
        exact ⟨⟨j + 1, hjl, he⟩, le_sub ⟨rfl, rfl, rfl, rfl, trivial⟩ rfl rfl, by show M.length - (j + 1) < M.length - j; omega⟩
  · have hjl : j = M.length := by have := of_decide_eq_false h2; omega
    subst hjl
    rw [List.drop_length, rowsChk] at he
    repeat (first|refine z2 ?_|refine z1 ?_|refine z3 ?_|refine z4 ?_|refine z5 ?_)
    refine awp_ret ⟨.inl rfl, ret_one rfl ?_⟩
    rw [he]
    exact .refl trivial
def latChk (c : Int) (M : List (List Int)) : Int := if c < 0 ∨ 12 < c then 3 else if 12 < M.length then 4 else rowsChk c M
theorem latchk_ok {Λ : Lai} (c : Int) (M : List (List Int)) (hM : M.length ≤ 1000000000000) (hlen : ∀ r ∈ M, r.length ≤ 1000000000000) : OkP Λ Tryz.prog 172 [.v (.int .i64 c), matS M] (.v (.int .i64 (latChk c M))) := by
  refine okp_intro hT 19 Tryz.func172 rfl rfl rfl (Nat.le_of_ble_eq_true rfl) trivial ?_
  intro w0 F0 I
  have hr := rowschk_ok (Λ := Λ) M c hM hlen
  (repeat (first | refine awp_seq ?_ | refine awp_block ?_ | refine awp_skip ?_))
  refine awp_at ⟨[(0, .v (.int .i64 c)), (1, matS M)], [], 0⟩ ?_ ?_
  · repeat (first|refine z2 ?_|refine z1 ?_|refine z3 ?_|refine z4 ?_|refine z5 ?_)
    exact le_sub ⟨rfl, rfl, trivial⟩ rfl rfl
  (repeat (first | refine awp_seq ?_ | refine awp_block ?_ | refine awp_skip ?_))
  refine awp_at ⟨[(0, .v (.int .i64 c)), (1, matS M), (5, .v (.bool (decide (c < 0 ∨ 12 < c))))], [], 0⟩ ?_ ?_
  · refine awp_region ?_
    by_cases h : c < 0
    · have hdA : decide (c < 0) = true := decide_eq_true h
      repeat (first|refine z2 ?_|refine z1 ?_|refine z3 ?_|refine z4 ?_|refine z5 ?_|refine z8 ?_|refine z9 ?_)
      refine al_pick rfl rfl rfl (v := decide (c < 0)) (r := .v (.bool true)) (by rw [hdA]; rfl) rfl rfl ?_
      repeat (first|refine z2 ?_|refine z1 ?_|refine z3 ?_|refine z4 ?_|refine z5 ?_)
      refine le_sub ⟨rfl, rfl, ?_, trivial⟩ rfl rfl
      rw [decide_eq_true (.inl h : c < 0 ∨ 12 < c)]; rfl
    · have hdA : decide (c < 0) = false := decide_eq_false h
      repeat (first|refine z2 ?_|refine z1 ?_|refine z3 ?_|refine z4 ?_|refine z5 ?_|refine z8 ?_|refine z9 ?_)
      refine le_sub ⟨rfl, rfl, ?_, trivial⟩ rfl rfl
      show some (AV.v (.bool (cond (decide (c < 0)) true (decide (c > 12))))) = _
      rw [hdA, cond_false]
      congr 3
      by_cases h2 : 12 < c
      · rw [decide_eq_true (show c > 12 from h2), decide_eq_true (.inr h2 : c < 0 ∨ 12 < c)]
      · rw [decide_eq_false (show ¬ c > 12 from h2), decide_eq_false (show ¬ (c < 0 ∨ 12 < c) from fun e => e.elim h h2)]
  refine awp_cond rfl (fun h => ?_) (fun h => ?_)
  · have h := of_decide_eq_true h
    repeat (first|refine z2 ?_|refine z1 ?_|refine z3 ?_|refine z4 ?_|refine z5 ?_)
    refine awp_ret ⟨.inl rfl, ret_one rfl ?_⟩
    unfold latChk
    rw [if_pos h]
    exact .refl trivial
  have h := of_decide_eq_false h
  unfold matS at hr ⊢
  repeat (first|refine z2 ?_|refine z1 ?_|refine z3 ?_|refine z4 ?_|refine z5 ?_)
  refine awp_cond rfl (fun h2 => ?_) (fun h2 => ?_)
  · have h2 := of_decide_eq_true h2
    repeat (first|refine z2 ?_|refine z1 ?_|refine z3 ?_|refine z4 ?_|refine z5 ?_)
    refine awp_ret ⟨.inl rfl, ret_one rfl ?_⟩
    unfold latChk
    rw [if_neg h, if_pos (by omega)]
    exact .refl trivial
  have h2 := of_decide_eq_false h2
  repeat (first|refine z2 ?_|refine z1 ?_|refine z3 ?_|refine z4 ?_|refine z5 ?_)
  refine zc (hr) ?_
  repeat (first|refine z2 ?_|refine z1 ?_|refine z3 ?_|refine z4 ?_|refine z5 ?_)
  refine awp_ret ⟨.inl rfl, ret_one rfl ?_⟩
  unfold latChk
  rw [if_neg h, if_neg (by omega)]
  exact .refl trivial
/-- All rows have n columns, which with the rows are few, of small ints. -/
structure Few (n : Nat) (M : List (List Int)) : Prop where
  cols : n ≤ 12
  rows : M.length ≤ 12
  rect : Rect n M
  fits : ∀ r ∈ M, ∀ x ∈ r, fitsB x = true
theorem Few.any {n : Nat} {M : List (List Int)} (h : Few n M) {r : List Int} (hr : r ∈ M) : r.any (fun x => !(fitsB x)) = false := by
  rw [List.any_eq_false]
  intro x hx
  rw [h.fits r hr x hx]
  simp
theorem Few.len {n : Nat} {M : List (List Int)} (h : Few n M) {r : List Int} (hr : r ∈ M) : r.length ≤ 12 := by rw [h.rect r hr]; exact h.cols
theorem Few.chk {n : Nat} {M : List (List Int)} (h : Few n M) : latChk n M = 0 := by
  have key : ∀ N : List (List Int), (∀ r ∈ N, r ∈ M) → rowsChk n N = 0 := by
    intro N hN
    induction N with
    | nil => rfl
    | cons r N ih =>
      have hr := hN r (by simp)
      have h1 : rowChk r = 0 := by unfold rowChk; rw [if_neg (fun e => e.elim (by have := h.len hr; omega) (by rw [h.any hr]; simp))]
      rw [rowsChk, if_neg (by rw [h1]; simp), if_neg (by rw [h.rect r hr]; simp)]
      exact ih (fun s hs => hN s (by simp [hs]))
  unfold latChk
  have := h.cols
  have := h.rows
  rw [if_neg (by omega), if_neg (by omega)]
  exact key M (fun _ h => h)
theorem tabchk_ok {Λ : Lai} {n : Nat} {M : List (List Int)} (h : Few n M) : OkP Λ Tryz.prog 215 [matS M] (.v (.int .i64 0)) := by
  refine okp_intro hT 30 Tryz.func215 rfl rfl rfl (Nat.le_of_ble_eq_true rfl) trivial ?_
  intro w0 F0 I
  have hrows := h.rows
  have hcols := h.cols
  unfold matS
  repeat (first|refine z2 ?_|refine z1 ?_|refine z3 ?_|refine z4 ?_|refine z5 ?_)
  refine awp_cond rfl (fun h2 => ?_) (fun _ => ?_)
  · have h2 := of_decide_eq_true h2; omega
  repeat (first|refine z2 ?_|refine z1 ?_|refine z3 ?_|refine z4 ?_|refine z5 ?_)
  refine awp_loop (fun x : { x : Nat // x ≤ M.length } => ⟨[(0, .sl 1 M.length (rowsC M)), (8, .sl 1 M.length (rowsC M)), (9, .v (.int .i64 M.length)), (10, .v (.int .i64 x.1))], [], 0⟩) (fun x => M.length - x.1) ⟨0, Nat.zero_le _⟩ (le_sub ⟨rfl, rfl, rfl, rfl, trivial⟩ rfl rfl) ?_
  rintro ⟨j, hj⟩
  simp only at hj ⊢
  repeat (first|refine z2 ?_|refine z1 ?_|refine z3 ?_|refine z4 ?_|refine z5 ?_)
  refine awp_cond rfl (fun h2 => ?_) (fun h2 => ?_)
  · have hjl : j < M.length := by have := of_decide_eq_true h2; omega
    have hm := List.getElem_mem hjl
    have hl := h.rect M[j] hm
    have h0 : 0 < M.length := by omega
    have hl0 := h.rect M[0] (List.getElem_mem h0)
    have hany := h.any hm
    have hc := contains_ok (Λ := Λ) M[j] 254 (fun n => !(fitsB n)) (by omega) (fun x _ => great_ok x)
    rw [hany] at hc
    repeat (first|refine z2 ?_|refine z1 ?_|refine z3 ?_|refine z4 ?_|refine z5 ?_)
    refine al_pure hT rfl (pure_load_pt rfl rfl rfl (rowsC_drop (j := j) (by omega) hjl)) rfl rfl True.intro ?_
    unfold rowS at hc ⊢
    repeat (first|refine z2 ?_|refine z1 ?_|refine z3 ?_|refine z4 ?_|refine z5 ?_)
    refine awp_cond rfl (fun h3 => ?_) (fun _ => ?_)
    · have h3 := of_decide_eq_true h3; omega
    repeat (first|refine z2 ?_|refine z1 ?_|refine z3 ?_|refine z4 ?_|refine z5 ?_)
    refine al_pure hT rfl (pure_load_pt rfl rfl rfl (rowsC_drop (j := 0) rfl h0)) rfl rfl True.intro ?_
    unfold rowS
    repeat (first|refine z2 ?_|refine z1 ?_|refine z3 ?_|refine z4 ?_|refine z5 ?_)
    refine awp_cond rfl (fun h3 => ?_) (fun _ => ?_)
    · have h3 : (M[j].length : Int) ≠ (M[0].length : Int) := by simpa using h3
      omega
    repeat (first|refine z2 ?_|refine z1 ?_|refine z3 ?_|refine z4 ?_|refine z5 ?_)
    refine zc (hc) ?_
    repeat (first|refine z2 ?_|refine z1 ?_|refine z3 ?_|refine z4 ?_|refine z5 ?_)
    refine awp_cond rfl (fun h3 => by cases h3) (fun _ => ?_)
    repeat (first|refine z2 ?_|refine z1 ?_|refine z3 ?_|refine z4 ?_|refine z5 ?_)
    exact ⟨⟨j + 1, hjl⟩, le_sub ⟨rfl, rfl, rfl, rfl, trivial⟩ rfl rfl, by show M.length - (j + 1) < M.length - j; omega⟩
  · repeat (first|refine z2 ?_|refine z1 ?_|refine z3 ?_|refine z4 ?_|refine z5 ?_)
    (exact awp_ret ⟨.inl rfl, ret_one rfl (.refl (by first | trivial | exact nrl_u64s _))⟩)
end Go.Proofs.YtlbhgejbfhhipaaGreatDoor

/- Walks: rows and matrices compared; normal form recognised. -/
namespace Go.Proofs.YtlbhgejbfhhipaaGreatDoor
open Go Go.Am Go.Lib Go.Sp Z1 Z2 Z3 Z4 Z5 Z6
theorem take_eq_succ {α : Type} {a b : List α} {j : Nat} (ha : j < a.length) (hb : j < b.length) (h : a.take j = b.take j) (e : a[j] = b[j]) : a.take (j + 1) = b.take (j + 1) := by
  rw [List.take_add_one, List.take_add_one, h, List.getElem?_eq_getElem ha, List.getElem?_eq_getElem hb, e]
set_option maxRecDepth 10000 in
theorem eqrow_ok {Λ : Lai} (a b : List Int) (ha : a.length ≤ 1000000000000) (hb : b.length ≤ 1000000000000) : OkP Λ Tryz.prog 166 [rowS a, rowS b] (.v (.bool (decide (a = b)))) := by
  refine okp_intro hT 26 Tryz.func166 rfl rfl rfl (Nat.le_of_ble_eq_true rfl) trivial ?_
  intro w0 F0 I
  unfold rowS
  repeat (first|refine z2 ?_|refine z1 ?_|refine z3 ?_|refine z4 ?_|refine z5 ?_)
  refine awp_cond rfl (fun h => ?_) (fun h => ?_)
  · have h : (a.length : Int) ≠ (b.length : Int) := by simpa using h
    repeat (first|refine z2 ?_|refine z1 ?_|refine z3 ?_|refine z4 ?_|refine z5 ?_)
    refine awp_ret ⟨.inl rfl, ret_one rfl ?_⟩
    rw [decide_eq_false (show ¬ a = b from fun e => h (by rw [e]))]
    exact .refl trivial
  have h : (a.length : Int) = (b.length : Int) := by simpa using h
  repeat (first|refine z2 ?_|refine z1 ?_|refine z3 ?_|refine z4 ?_|refine z5 ?_)
  refine awp_loop (fun x : { x : Nat // x ≤ a.length ∧ a.take x = b.take x } => ⟨[(0, .sl 1 a.length (i64s a)), (1, .sl 1 b.length (i64s b)), (12, .v (.int .i64 a.length)), (13, .v (.int .i64 x.1))], [], 0⟩) (fun x => a.length - x.1) ⟨0, Nat.zero_le _, by simp⟩ (le_sub ⟨rfl, rfl, rfl, rfl, trivial⟩ rfl rfl) ?_
  rintro ⟨j, hj, he⟩
  simp only at hj he ⊢
  repeat (first|refine z2 ?_|refine z1 ?_|refine z3 ?_|refine z4 ?_|refine z5 ?_)
  refine awp_cond rfl (fun h2 => ?_) (fun h2 => ?_)
  · have hja : j < a.length := by have := of_decide_eq_true h2; omega
    have hjb : j < b.length := by omega
    repeat (first|refine z2 ?_|refine z1 ?_|refine z3 ?_|refine z4 ?_|refine z5 ?_)
    refine awp_region_draw [] hmix (by kernel_rfl) ?_
    repeat (first|refine z2 ?_|refine z1 ?_|refine z3 ?_|refine z4 ?_|refine z5 ?_)
    refine al_pure hT rfl (pure_load_pt rfl rfl rfl (i64s_drop (j := j) (by omega) hja)) rfl rfl True.intro ?_
    repeat (first|refine z2 ?_|refine z1 ?_|refine z3 ?_|refine z4 ?_|refine z5 ?_)
    refine al_pure hT rfl (pure_load_pt rfl rfl rfl (i64s_drop (j := j) (by omega) hjb)) rfl rfl True.intro ?_
    repeat (first|refine z2 ?_|refine z1 ?_|refine z3 ?_|refine z4 ?_|refine z5 ?_)
    refine awp_cond rfl (fun h3 => ?_) (fun h3 => ?_)
    · have h3 : a[j] ≠ b[j] := by simpa using h3
      repeat (first|refine z2 ?_|refine z1 ?_|refine z3 ?_|refine z4 ?_|refine z5 ?_)
      refine awp_ret ⟨.inl rfl, ret_one rfl ?_⟩
      rw [decide_eq_false (show ¬ a = b from fun e => h3 (by subst e; rfl))]
      exact .refl trivial
    · have h3 : a[j] = b[j] := by simpa using h3
      repeat (first|refine z2 ?_|refine z1 ?_|refine z3 ?_|refine z4 ?_|refine z5 ?_)
      exact ⟨⟨j + 1, hja, take_eq_succ hja hjb he h3⟩, le_sub ⟨rfl, rfl, rfl, rfl, trivial⟩ rfl rfl, by show a.length - (j + 1) < a.length - j; omega⟩
  · have hja : j = a.length := by have := of_decide_eq_false h2; omega
    rw [hja, List.take_length, List.take_of_length_le (by omega)] at he
    repeat (first|refine z2 ?_|refine z1 ?_|refine z3 ?_|refine z4 ?_|refine z5 ?_)
    refine awp_ret ⟨.inl rfl, ret_one rfl ?_⟩
    rw [decide_eq_true he]
    exact .refl trivial
theorem eqrow1_ok {Λ : Lai} (a b : List Int) (ha : a.length ≤ 1000000000000) (hb : b.length ≤ 1000000000000) : OkP Λ Tryz.prog 165 [rowS a, rowS b] (.v (.bool (decide (a = b)))) := by
  refine okp_intro hT 8 Tryz.func165 rfl rfl rfl (Nat.le_of_ble_eq_true rfl) trivial ?_
  intro w0 F0 I
  repeat (first|refine z2 ?_|refine z1 ?_|refine z3 ?_|refine z4 ?_|refine z5 ?_)
  refine zc (eqrow_ok a b ha hb) ?_
  repeat (first|refine z2 ?_|refine z1 ?_|refine z3 ?_|refine z4 ?_|refine z5 ?_)
  (exact awp_ret ⟨.inl rfl, ret_one rfl (.refl (by first | trivial | exact nrl_u64s _))⟩)
theorem eqrow2_ok {Λ : Lai} (a b : List Int) (ha : a.length ≤ 1000000000000) (hb : b.length ≤ 1000000000000) : OkP Λ Tryz.prog 177 [rowS a, rowS b] (.v (.bool (decide (a = b)))) := by
  refine okp_intro hT 8 Tryz.func177 rfl rfl rfl (Nat.le_of_ble_eq_true rfl) trivial ?_
  intro w0 F0 I
  repeat (first|refine z2 ?_|refine z1 ?_|refine z3 ?_|refine z4 ?_|refine z5 ?_)
  refine zc (eqrow_ok a b ha hb) ?_
  repeat (first|refine z2 ?_|refine z1 ?_|refine z3 ?_|refine z4 ?_|refine z5 ?_)
  (exact awp_ret ⟨.inl rfl, ret_one rfl (.refl (by first | trivial | exact nrl_u64s _))⟩)
set_option maxRecDepth 10000 in
theorem eqmat_ok {Λ : Lai} (a b : List (List Int)) (g : Nat) (ha : a.length ≤ 1000000000000) (hb : b.length ≤ 1000000000000) (hg : ∀ x ∈ a, ∀ y ∈ b, OkP Λ Tryz.prog g [rowS x, rowS y] (.v (.bool (decide (x = y))))) : OkP Λ Tryz.prog 164 [matS a, matS b, .fn g []] (.v (.bool (decide (a = b)))) := by
  refine okp_intro hT 32 Tryz.func164 rfl rfl rfl (Nat.le_of_ble_eq_true rfl) trivial ?_
  intro w0 F0 I
  unfold matS
  repeat (first|refine z2 ?_|refine z1 ?_|refine z3 ?_|refine z4 ?_|refine z5 ?_)
  refine awp_cond rfl (fun h => ?_) (fun h => ?_)
  · have h : (a.length : Int) ≠ (b.length : Int) := by simpa using h
    repeat (first|refine z2 ?_|refine z1 ?_|refine z3 ?_|refine z4 ?_|refine z5 ?_)
    refine awp_ret ⟨.inl rfl, ret_one rfl ?_⟩
    rw [decide_eq_false (show ¬ a = b from fun e => h (by rw [e]))]
    exact .refl trivial
  have h : (a.length : Int) = (b.length : Int) := by simpa using h
  repeat (first|refine z2 ?_|refine z1 ?_|refine z3 ?_|refine z4 ?_|refine z5 ?_)
  refine awp_loop (fun x : { x : Nat // x ≤ a.length ∧ a.take x = b.take x } => ⟨[(1, .sl 1 b.length (rowsC b)), (2, .fn g []), (15, .sl 1 a.length (rowsC a)), (16, .v (.int .i64 a.length)), (17, .v (.int .i64 x.1))], [], 0⟩) (fun x => a.length - x.1) ⟨0, Nat.zero_le _, by simp⟩ (le_sub ⟨rfl, rfl, rfl, rfl, rfl, trivial⟩ rfl rfl) ?_
  rintro ⟨j, hj, he⟩
  simp only at hj he ⊢
  repeat (first|refine z2 ?_|refine z1 ?_|refine z3 ?_|refine z4 ?_|refine z5 ?_)
  refine awp_cond rfl (fun h2 => ?_) (fun h2 => ?_)
  · have hja : j < a.length := by have := of_decide_eq_true h2; omega
    have hjb : j < b.length := by omega
    repeat (first|refine z2 ?_|refine z1 ?_|refine z3 ?_|refine z4 ?_|refine z5 ?_)
    refine al_pure hT rfl (pure_load_pt rfl rfl rfl (rowsC_drop (j := j) (by omega) hja)) rfl rfl True.intro ?_
    repeat (first|refine z2 ?_|refine z1 ?_|refine z3 ?_|refine z4 ?_|refine z5 ?_)
    refine al_pure hT rfl (pure_load_pt rfl rfl rfl (rowsC_drop (j := j) (by omega) hjb)) rfl rfl True.intro ?_
    repeat (first|refine z2 ?_|refine z1 ?_|refine z3 ?_|refine z4 ?_|refine z5 ?_)
    refine zc (hg a[j] (List.getElem_mem hja) b[j] (List.getElem_mem hjb)) ?_
    repeat (first|refine z2 ?_|refine z1 ?_|refine z3 ?_|refine z4 ?_|refine z5 ?_)
    refine awp_cond rfl (fun h3 => ?_) (fun h3 => ?_)
    · have h3 : a[j] ≠ b[j] := by simpa using h3
      repeat (first|refine z2 ?_|refine z1 ?_|refine z3 ?_|refine z4 ?_|refine z5 ?_)
      refine awp_ret ⟨.inl rfl, ret_one rfl ?_⟩
      rw [decide_eq_false (show ¬ a = b from fun e => h3 (by subst e; rfl))]
      exact .refl trivial
    · have h3 : a[j] = b[j] := by simpa using h3
      repeat (first|refine z2 ?_|refine z1 ?_|refine z3 ?_|refine z4 ?_|refine z5 ?_)
      exact ⟨⟨j + 1, hja, take_eq_succ hja hjb he h3⟩, le_sub ⟨rfl, rfl, rfl, rfl, rfl, trivial⟩ rfl rfl, by show a.length - (j + 1) < a.length - j; omega⟩
  · have hja : j = a.length := by have := of_decide_eq_false h2; omega
    rw [hja, List.take_length, List.take_of_length_le (by omega)] at he
    repeat (first|refine z2 ?_|refine z1 ?_|refine z3 ?_|refine z4 ?_|refine z5 ?_)
    refine awp_ret ⟨.inl rfl, ret_one rfl ?_⟩
    rw [decide_eq_true he]
    exact .refl trivial
def shortM (M : List (List Int)) : Prop := M.length ≤ 1000000000000 ∧ ∀ r ∈ M, r.length ≤ 1000000000000
theorem same_ok {Λ : Lai} (a b : List (List Int)) (ha : shortM a) (hb : shortM b) : OkP Λ Tryz.prog 114 [matS a, matS b] (.v (.bool (decide (a = b)))) := by
  refine okp_intro hT 8 Tryz.func114 rfl rfl rfl (Nat.le_of_ble_eq_true rfl) trivial ?_
  intro w0 F0 I
  repeat (first|refine z2 ?_|refine z1 ?_|refine z3 ?_|refine z4 ?_|refine z5 ?_)
  refine zc (eqmat_ok a b 165 ha.1 hb.1 (fun x hx y hy => eqrow1_ok x y (ha.2 x hx) (hb.2 y hy))) ?_
  repeat (first|refine z2 ?_|refine z1 ?_|refine z3 ?_|refine z4 ?_|refine z5 ?_)
  (exact awp_ret ⟨.inl rfl, ret_one rfl (.refl (by first | trivial | exact nrl_u64s _))⟩)
/-- A lattice: its columns and its basis. -/
def latS (n : Nat) (M : List (List Int)) : AV := .agg [.v (.int .i64 n), matS M]
theorem nr_latS (n : Nat) (M : List (List Int)) : nr (latS n M) := ⟨trivial, nr_matS M, trivial⟩
set_option maxRecDepth 10000 in
theorem lateq_ok {Λ : Lai} (n : Nat) (a b : List (List Int)) (ha : shortM a) (hb : shortM b) : OkP Λ Tryz.prog 136 [latS n a, latS n b] (.v (.bool (decide (a = b)))) := by
  refine okp_intro hT 17 Tryz.func136 rfl rfl rfl (Nat.le_of_ble_eq_true rfl) trivial ?_
  intro w0 F0 I
  unfold latS
  have hc := eqmat_ok (Λ := Λ) a b 177 ha.1 hb.1 (fun x hx y hy => eqrow2_ok x y (ha.2 x hx) (hb.2 y hy))
  have hdA : ((n : Int) == (n : Int)) = true := by simp
  repeat (first|refine z2 ?_|refine z1 ?_|refine z3 ?_|refine z4 ?_|refine z5 ?_|refine z8 ?_|refine z9 ?_)
  refine al_on_call hc rfl rfl rfl ?_ rfl rfl rfl (.cons (.refl (nr_matS a)) (.cons (.refl (nr_matS b)) (.cons (.refl trivial) .nil))) (.inl trivial) rfl rfl ?_
  focus (rw [hdA]; rfl)
  repeat (first|refine z2 ?_|refine z1 ?_|refine z3 ?_|refine z4 ?_|refine z5 ?_|refine z8 ?_|refine z9 ?_)
  refine awp_ret ⟨.inl rfl, ret_one rfl ?_⟩
  show Sub _ (AV.v (.bool (cond ((n : Int) == (n : Int)) (decide (a = b)) false))) _
  rw [hdA]
  exact .refl trivial
end Go.Proofs.YtlbhgejbfhhipaaGreatDoor

/- Walks: normal form recognised. -/
namespace Go.Proofs.YtlbhgejbfhhipaaGreatDoor
open Go Go.Am Go.Lib Go.Sp Z1 Z2 Z3 Z4 Z5 Z6
theorem sub_eq {st : AS} {x y : AV} (h : x = y) (hn : nr y) : Sub st x y := by subst h; exact .refl hn
theorem ne0_ok {Λ : Lai} (n : Int) : OkP Λ Tryz.prog 274 [.v (.int .i64 n)] (.v (.bool (n != 0))) := by
  refine okp_intro hT 5 Tryz.func274 rfl rfl rfl (Nat.le_of_ble_eq_true rfl) trivial ?_
  intro w0 F0 I
  repeat (first|refine z2 ?_|refine z1 ?_|refine z3 ?_|refine z4 ?_|refine z5 ?_)
  (exact awp_ret ⟨.inl rfl, ret_one rfl (.refl (by first | trivial | exact nrl_u64s _))⟩)
def pivL (r : List Int) : Int := idxL (fun n => n != 0) r
theorem pivot_ok {Λ : Lai} (r : List Int) (h : r.length ≤ 1000000000000) : OkP Λ Tryz.prog 255 [rowS r] (.v (.int .i64 (pivL r))) := by
  refine okp_intro hT 5 Tryz.func255 rfl rfl rfl (Nat.le_of_ble_eq_true rfl) trivial ?_
  intro w0 F0 I
  repeat (first|refine z2 ?_|refine z1 ?_|refine z3 ?_|refine z4 ?_|refine z5 ?_)
  refine zc (idx_ok r 274 (fun n => n != 0) h (fun x _ => ne0_ok x)) ?_
  repeat (first|refine z2 ?_|refine z1 ?_|refine z3 ?_|refine z4 ?_|refine z5 ?_)
  (exact awp_ret ⟨.inl rfl, ret_one rfl (.refl (by first | trivial | exact nrl_u64s _))⟩)
theorem idxm_ok {Λ : Lai} (l : List (List Int)) (g : Nat) (cs : List AV) (hcs : nrl cs) (p : List Int → Bool) (hlen : l.length ≤ 1000000000000) (h : ∀ x ∈ l, OkP Λ Tryz.prog g ([rowS x] ++ cs) (.v (.bool (p x)))) : OkP Λ Tryz.prog 275 [matS l, .fn g cs] (.v (.int .i64 (idxL p l))) := by
  refine okp_intro hT 19 Tryz.func275 rfl rfl rfl (Nat.le_of_ble_eq_true rfl) trivial ?_
  intro w0 F0 I
  unfold matS
  repeat (first|refine z2 ?_|refine z1 ?_|refine z3 ?_|refine z4 ?_|refine z5 ?_)
  refine awp_loop (fun x : { x : Nat // x ≤ l.length ∧ ∀ i (hi : i < l.length), i < x → p l[i] = false } => ⟨[(0, .sl 1 l.length (rowsC l)), (1, .fn g cs), (7, .v (.int .i64 l.length)), (8, .v (.int .i64 x.1))], [], 0⟩) (fun x => l.length - x.1) ⟨0, Nat.zero_le _, fun i _ hi => by omega⟩ (le_sub ⟨rfl, rfl, rfl, rfl, trivial⟩ rfl rfl) ?_
  rintro ⟨j, hj, hf⟩
  simp only at hj hf ⊢
  obtain ⟨a1, a2⟩ := idxL_at p l j hj hf
  repeat (first|refine z2 ?_|refine z1 ?_|refine z3 ?_|refine z4 ?_|refine z5 ?_)
  refine awp_cond rfl (fun h2 => ?_) (fun h2 => ?_)
  · have hjl : j < l.length := by have := of_decide_eq_true h2; omega
    repeat (first|refine z2 ?_|refine z1 ?_|refine z3 ?_|refine z4 ?_|refine z5 ?_)
    refine al_pure hT rfl (pure_load_pt rfl rfl rfl (rowsC_drop (j := j) (by omega) hjl)) rfl rfl True.intro ?_
    repeat (first|refine z2 ?_|refine z1 ?_|refine z3 ?_|refine z4 ?_|refine z5 ?_)
    refine al_call (h l[j] (List.getElem_mem hjl)) rfl rfl rfl rfl (.cons (.refl (nr_rowS _)) (SubL.refl hcs)) (.inl trivial) rfl rfl ?_
    repeat (first|refine z2 ?_|refine z1 ?_|refine z3 ?_|refine z4 ?_|refine z5 ?_)
    refine awp_cond rfl (fun h3 => ?_) (fun h3 => ?_)
    · repeat (first|refine z2 ?_|refine z1 ?_|refine z3 ?_|refine z4 ?_|refine z5 ?_)
      refine awp_ret ⟨.inl rfl, ret_one rfl ?_⟩
      rw [a1 hjl h3]
      exact .refl trivial
    · repeat (first|refine z2 ?_|refine z1 ?_|refine z3 ?_|refine z4 ?_|refine z5 ?_)
      refine ⟨⟨j + 1, hjl, fun i hi hij => ?_⟩, le_sub ⟨rfl, rfl, rfl, rfl, trivial⟩ rfl rfl, by show l.length - (j + 1) < l.length - j; omega⟩
      rcases Nat.lt_or_ge i j with h4 | h4
      · exact hf i hi h4
      · have : i = j := by omega
        subst this
        exact h3
  · have hjl : j = l.length := by have := of_decide_eq_false h2; omega
    repeat (first|refine z2 ?_|refine z1 ?_|refine z3 ?_|refine z4 ?_|refine z5 ?_)
    refine awp_ret ⟨.inl rfl, ret_one rfl ?_⟩
    rw [a2 hjl]
    exact .refl trivial
theorem containsm_ok {Λ : Lai} (l : List (List Int)) (g : Nat) (cs : List AV) (hcs : nrl cs) (p : List Int → Bool) (hlen : l.length ≤ 1000000000000) (h : ∀ x ∈ l, OkP Λ Tryz.prog g ([rowS x] ++ cs) (.v (.bool (p x)))) : OkP Λ Tryz.prog 256 [matS l, .fn g cs] (.v (.bool (l.any p))) := by
  refine okp_intro hT 9 Tryz.func256 rfl rfl rfl (Nat.le_of_ble_eq_true rfl) trivial ?_
  intro w0 F0 I
  have e : decide (idxL p l ≥ 0) = l.any p := by
    have := idxL_any p l
    by_cases h : l.any p = true
    · rw [h, decide_eq_true (this.2 h)]
    · rw [decide_eq_false (fun h2 => h (this.1 h2))]
      simpa using h
  repeat (first|refine z2 ?_|refine z1 ?_|refine z3 ?_|refine z4 ?_|refine z5 ?_)
  refine al_call (idxm_ok l g cs hcs p hlen h) rfl rfl rfl rfl (.cons (.refl (nr_matS _)) (.cons (.refl hcs) .nil)) (.inl trivial) rfl rfl ?_
  repeat (first|refine z2 ?_|refine z1 ?_|refine z3 ?_|refine z4 ?_|refine z5 ?_)
  refine awp_ret ⟨.inl rfl, ret_one rfl ?_⟩
  rw [← e]
  exact .refl trivial
theorem small_at {Λ : Lai} (x r : List Int) (p : Nat) (hx : p < x.length) (hr : p < r.length) (h : 0 ≤ x[p] ∧ x[p] < r[p]) : OkP Λ Tryz.prog 257 ([rowS x] ++ [.pt [.v (.int .i64 (p : Int))], .pt [rowS r]]) (.v (.bool false)) := by
  refine okp_intro hT 21 Tryz.func257 rfl rfl rfl (Nat.le_of_ble_eq_true rfl) trivial ?_
  intro w0 F0 I
  have hdA : decide (x[p] < 0) = false := decide_eq_false (by omega)
  have hdB : decide (x[p] ≥ r[p]) = false := decide_eq_false (by omega)
  unfold rowS
  (repeat (first | refine awp_seq ?_ | refine awp_block ?_ | refine awp_skip ?_))
  refine awp_at ⟨[(0, .sl 1 x.length (i64s x)), (1, .pt [.v (.int .i64 (p : Int))]), (2, .pt [.sl 1 r.length (i64s r)])], [], 0⟩ ?_ ?_
  · repeat (first|refine z2 ?_|refine z1 ?_|refine z3 ?_|refine z4 ?_|refine z5 ?_)
    exact le_sub ⟨rfl, rfl, rfl, trivial⟩ rfl rfl
  (repeat (first | refine awp_seq ?_ | refine awp_block ?_ | refine awp_skip ?_))
  refine awp_region_draw [] hmix (by kernel_rfl) ?_
  repeat (first|refine z2 ?_|refine z1 ?_|refine z3 ?_|refine z4 ?_|refine z5 ?_|refine z8 ?_|refine z9 ?_)
  refine al_pure hT rfl (pure_load_pt rfl rfl rfl (i64s_drop (j := p) (by omega) hx)) rfl rfl True.intro ?_
  repeat (first|refine z2 ?_|refine z1 ?_|refine z3 ?_|refine z4 ?_|refine z5 ?_|refine z8 ?_|refine z9 ?_)
  refine al_on hT rfl rfl rfl (by first | (rw [hdA]; rfl) | (rw [hdB]; rfl)) (pure_load_pt rfl rfl rfl (i64s_drop (j := p) (by omega) hx)) rfl rfl True.intro ?_
  repeat (first|refine z2 ?_|refine z1 ?_|refine z3 ?_|refine z4 ?_|refine z5 ?_|refine z8 ?_|refine z9 ?_)
  refine al_on hT rfl rfl rfl (by first | (rw [hdA]; rfl) | (rw [hdB]; rfl)) (pure_load_pt rfl rfl rfl (i64s_drop (j := p) (by omega) hr)) rfl rfl True.intro ?_
  repeat (first|refine z2 ?_|refine z1 ?_|refine z3 ?_|refine z4 ?_|refine z5 ?_|refine z8 ?_|refine z9 ?_)
  refine awp_ret ⟨.inl rfl, ret_one rfl ?_⟩
  show Sub _ (AV.v (.bool (cond (decide (x[p] < 0)) true (decide (x[p] ≥ r[p]))))) _
  rw [hdA, hdB]
  exact .refl trivial
end Go.Proofs.YtlbhgejbfhhipaaGreatDoor

/- Walks: matrices in normal form are recognised; lattices checked. -/
namespace Go.Proofs.YtlbhgejbfhhipaaGreatDoor
open Go Go.Am Go.Lib Go.Sp Z1 Z2 Z3 Z4 Z5 Z6
theorem ent_get {M : List (List Int)} {i j : Nat} (hi : i < M.length) (hj : j < M[i].length) : ent M i j = M[i][j] := by
  unfold ent
  have : M.getD i [] = M[i] := by rw [List.getD_eq_getElem?_getD, List.getElem?_eq_getElem hi, Option.getD_some]
  rw [this, List.getD_eq_getElem?_getD, List.getElem?_eq_getElem hj, Option.getD_some]
theorem piv_lt {n : Nat} {M : List (List Int)} {P : List Nat} (hr : Rect n M) (h : HN P M) {i : Nat} (hi : i < M.length) : P.getD i 0 < n := by
  rcases Nat.lt_or_ge (P.getD i 0) n with h1 | h1
  · exact h1
  · have := h.idx.2.2.2.1 i hi
    rw [ent_wide hr h1] at this
    omega
theorem piv_row {n : Nat} {M : List (List Int)} {P : List Nat} (hr : Rect n M) (h : HN P M) {i : Nat} (hi : i < M.length) : pivL M[i] = (P.getD i 0 : Nat) := by
  have hlt := piv_lt hr h hi
  have hl := hr M[i] (List.getElem_mem hi)
  obtain ⟨_, _, i3, i4, _⟩ := h.idx
  refine (idxL_at (fun n => n != 0) M[i] (P.getD i 0) (by omega) (fun j hj hjp => ?_)).1 (by omega) ?_
  · have := i3 i hi j hjp
    rw [ent_get hi hj] at this
    exact bne_eq_false_iff_eq.2 this
  · have := i4 i hi
    rw [ent_get hi (by omega)] at this
    exact bne_iff_ne.2 (by omega)
theorem take_mat {M : List (List Int)} {j a : Nat} (ha : a = j) (hj : j ≤ M.length) : AV.sl 1 a (((rowsC M).drop 0).take (a * 1)) = matS (M.take j) := by
  subst ha
  unfold matS rowsC
  rw [List.drop_zero, Nat.mul_one, List.length_take, Nat.min_eq_left hj, List.map_take]
set_option maxRecDepth 10000 in
theorem isform_ok {Λ : Lai} {n : Nat} {M : List (List Int)} {P : List Nat} (hf : Few n M) (h : HN P M) : OkP Λ Tryz.prog 216 [matS M] (.v (.bool true)) := by
  refine okp_intro hT 33 Tryz.func216 rfl rfl rfl (Nat.le_of_ble_eq_true rfl) trivial ?_
  intro w0 F0 I
  have hrows := hf.rows
  have hcols := hf.cols
  obtain ⟨_, i2, _, i4, i5⟩ := h.idx
  unfold matS
  repeat (first|refine z2 ?_|refine z1 ?_|refine z3 ?_|refine z4 ?_|refine z5 ?_)
  refine awp_loop (fun x : { x : Nat // x ≤ M.length } => ⟨[(0, .sl 1 M.length (rowsC M)), (3, .v (.int .i64 (if x.1 = 0 then -1 else (P.getD (x.1 - 1) 0 : Nat)))), (7, .sl 1 M.length (rowsC M)), (8, .v (.int .i64 M.length)), (9, .v (.int .i64 x.1))], [], 0⟩) (fun x => M.length - x.1) ⟨0, Nat.zero_le _⟩ (le_sub ⟨rfl, rfl, rfl, rfl, rfl, trivial⟩ rfl rfl) ?_
  rintro ⟨j, hj⟩
  simp only at hj ⊢
  repeat (first|refine z2 ?_|refine z1 ?_|refine z3 ?_|refine z4 ?_|refine z5 ?_)
  refine awp_cond rfl (fun h2 => ?_) (fun h2 => ?_)
  · have hjl : j < M.length := by have := of_decide_eq_true h2; omega
    have hl := hf.rect M[j] (List.getElem_mem hjl)
    have hp := piv_row hf.rect h hjl
    have hlt := piv_lt hf.rect h hjl
    have hpv := pivot_ok (Λ := Λ) M[j] (by omega)
    obtain ⟨p, hpe⟩ : ∃ p, P.getD j 0 = p := ⟨_, rfl⟩
    rw [hpe] at hp hlt
    rw [hp] at hpv
    have hpos : 0 < M[j][p] := by
      have := i4 j hjl
      rw [hpe, ent_get hjl (by omega)] at this
      exact this
    have hbef : (if j = 0 then (-1 : Int) else (P.getD (j - 1) 0 : Nat)) < (p : Nat) := by
      by_cases hj0 : j = 0
      · rw [if_pos hj0]; omega
      · rw [if_neg hj0]; have := i2 (j - 1) j (by omega) hjl; omega
    have hcon := containsm_ok (Λ := Λ) (M.take j) 257 [.pt [.v (.int .i64 (p : Int))], .pt [rowS M[j]]] ⟨⟨trivial, trivial⟩, ⟨nr_rowS _, trivial⟩, trivial⟩ (fun _ => false) (by rw [List.length_take]; omega) (fun x hx => by
      obtain ⟨k, hk, rfl⟩ := List.getElem_of_mem hx
      rw [List.length_take] at hk
      rw [List.getElem_take]
      have hkl := hf.rect M[k] (List.getElem_mem (by omega))
      have := i5 k j (by omega) hjl
      rw [hpe, ent_get (by omega) (by omega), ent_get hjl (by omega)] at this
      exact small_at M[k] M[j] p (by omega) (by omega) this)
    have hnone : (M.take j).any (fun _ => false) = false := by rw [List.any_eq_false]; simp
    rw [hnone] at hcon
    repeat (first|refine z2 ?_|refine z1 ?_|refine z3 ?_|refine z4 ?_|refine z5 ?_)
    refine al_pure hT rfl (pure_load_pt rfl rfl rfl (rowsC_drop (j := j) (by omega) hjl)) rfl rfl True.intro ?_
    repeat (first|refine z2 ?_|refine z1 ?_|refine z3 ?_|refine z4 ?_|refine z5 ?_)
    refine zc (hpv) ?_
    repeat (first | refine al_storeB hT rfl rfl rfl rfl rfl rfl rfl rfl rfl rfl rfl ?_ | refine al_alloc hT rfl rfl rfl rfl rfl ?_)
    refine al_nil ?_
    (repeat (first | refine awp_seq ?_ | refine awp_block ?_ | refine awp_skip ?_))
    have hdA : decide (((p : Nat) : Int) ≤ (if j = 0 then (-1 : Int) else (P.getD (j - 1) 0 : Nat))) = false := decide_eq_false (by omega)
    refine awp_region ?_
    unfold rowS
    repeat (first|refine z2 ?_|refine z1 ?_|refine z3 ?_|refine z4 ?_|refine z5 ?_|refine z8 ?_|refine z9 ?_)
    refine al_on hT rfl rfl rfl (by first | (rw [hdA]; rfl) | (rw [hdB]; rfl)) (pure_load_pt rfl rfl rfl (i64s_drop (j := p) (by omega) (by omega))) rfl rfl True.intro ?_
    repeat (first|refine z2 ?_|refine z1 ?_|refine z3 ?_|refine z4 ?_|refine z5 ?_|refine z8 ?_|refine z9 ?_)
    refine awp_cond rfl (fun h3 => ?_) (fun _ => ?_)
    · have h3 : cond (decide (((p : Nat) : Int) ≤ (if j = 0 then (-1 : Int) else (P.getD (j - 1) 0 : Nat)))) true (decide (M[j][p] < 0)) = true := h3
      rw [hdA, cond_false] at h3
      have := of_decide_eq_true h3
      omega
    repeat (first|refine z2 ?_|refine z1 ?_|refine z3 ?_|refine z4 ?_|refine z5 ?_)
    refine al_call hcon rfl rfl rfl rfl (.cons (sub_eq (take_mat (by omega) (by omega)) (nr_matS _)) (.cons (.fn (.cons (.adr rfl (by show 0 < 1; omega) (.cons (.refl trivial) .nil)) (.cons (.adr rfl (by show 0 < 1; omega) (.cons (.refl (nr_rowS _)) .nil)) .nil))) .nil)) (.inl trivial) rfl rfl ?_
    repeat (first|refine z2 ?_|refine z1 ?_|refine z3 ?_|refine z4 ?_|refine z5 ?_)
    refine awp_cond rfl (fun h3 => by cases h3) (fun _ => ?_)
    repeat (first|refine z2 ?_|refine z1 ?_|refine z3 ?_|refine z4 ?_|refine z5 ?_)
    refine ⟨⟨j + 1, hjl⟩, le_clear ⟨rfl, ?_, rfl, rfl, rfl, trivial⟩ ⟨nrl_rowsC M, trivial, nrl_rowsC M, trivial, trivial, trivial⟩, by show M.length - (j + 1) < M.length - j; omega⟩
    show some (AV.v (.int .i64 ((p : Nat) : Int))) = _
    rw [if_neg (show ¬ j + 1 = 0 by omega), Nat.add_sub_cancel, hpe]
  · repeat (first|refine z2 ?_|refine z1 ?_|refine z3 ?_|refine z4 ?_|refine z5 ?_)
    (exact awp_ret ⟨.inl rfl, ret_one rfl (.refl (by first | trivial | exact nrl_u64s _))⟩)
theorem isForm_ok {Λ : Lai} {n : Nat} {M : List (List Int)} {P : List Nat} (hf : Few n M) (h : HN P M) : OkP Λ Tryz.prog 173 [matS M] (.tup [.v (.bool true), .v (.int .i64 0)]) := by
  refine okp_intro hT 12 Tryz.func173 rfl rfl rfl (Nat.le_of_ble_eq_true rfl) ⟨trivial, trivial, trivial⟩ ?_
  intro w0 F0 I
  repeat (first|refine z2 ?_|refine z1 ?_|refine z3 ?_|refine z4 ?_|refine z5 ?_)
  refine zc (tabchk_ok hf) ?_
  repeat (first|refine z2 ?_|refine z1 ?_|refine z3 ?_|refine z4 ?_|refine z5 ?_)
  refine awp_cond rfl (fun h => by cases h) (fun _ => ?_)
  repeat (first|refine z2 ?_|refine z1 ?_|refine z3 ?_|refine z4 ?_|refine z5 ?_)
  refine zc (isform_ok hf h) ?_
  repeat (first|refine z2 ?_|refine z1 ?_|refine z3 ?_|refine z4 ?_|refine z5 ?_)
  (exact awp_ret ⟨.inl rfl, ret_tup rfl (by repeat' (first | exact SubL.nil | (refine SubL.cons (.refl ?_) ?_; (focus (first | trivial | exact nrl_u64s _ | exact nr_rowS _ | exact nr_matS _ | exact nrl_i64s _ | exact nrl_rowsC _)))))⟩)
theorem latcheck_ok {Λ : Lai} {n : Nat} {M : List (List Int)} {P : List Nat} (hf : Few n M) (h : HN P M) : OkP Λ Tryz.prog 134 [latS n M] (.v (.int .i64 0)) := by
  refine okp_intro hT 26 Tryz.func134 rfl rfl rfl (Nat.le_of_ble_eq_true rfl) trivial ?_
  intro w0 F0 I
  have hrows := hf.rows
  have hl := latchk_ok (Λ := Λ) (n : Int) M (by omega) (fun r hr => by have := hf.len hr; omega)
  rw [hf.chk] at hl
  unfold latS
  repeat (first|refine z2 ?_|refine z1 ?_|refine z3 ?_|refine z4 ?_|refine z5 ?_)
  refine zc (hl) ?_
  repeat (first|refine z2 ?_|refine z1 ?_|refine z3 ?_|refine z4 ?_|refine z5 ?_)
  refine awp_cond rfl (fun h => by cases h) (fun _ => ?_)
  repeat (first|refine z2 ?_|refine z1 ?_|refine z3 ?_|refine z4 ?_|refine z5 ?_)
  refine zc (isForm_ok hf h) ?_
  repeat (first|refine z2 ?_|refine z1 ?_|refine z3 ?_|refine z4 ?_|refine z5 ?_|refine z6 ?_|refine z7 ?_)
  refine awp_cond rfl (fun h => by cases h) (fun _ => ?_)
  repeat (first|refine z2 ?_|refine z1 ?_|refine z3 ?_|refine z4 ?_|refine z5 ?_)
  (exact awp_ret ⟨.inl rfl, ret_one rfl (.refl (by first | trivial | exact nrl_u64s _))⟩)
end Go.Proofs.YtlbhgejbfhhipaaGreatDoor

/- Walks: rows of integers of any size. -/
namespace Go.Proofs.YtlbhgejbfhhipaaGreatDoor
open Go Go.Am Go.Lib Go.Sp Z1 Z2 Z3 Z4 Z5 Z6
def zsC (l : List Int) : List AV := l.map fun z => AV.v (.string (zS z))
theorem zsC_len (l : List Int) : (zsC l).length = l.length := by simp [zsC]
theorem nrl_zsC (l : List Int) : nrl (zsC l) := nrl_v _ l
theorem hfl_zsC (l : List Int) : hfl (zsC l) := hfl_v _ l
theorem zsC_at {l : List Int} {i j : Nat} (h : i = j) (hj : j < l.length) : (zsC l)[i]? = some (.v (.string (zS l[j]))) := by
  subst h; simp [zsC, hj]
theorem zsC_drop {l : List Int} {i j : Nat} (h : i = j) (hj : j < l.length) : ((zsC l).drop i)[0]? = some (.v (.string (zS l[j]))) := by
  subst h; simp [zsC, hj]
theorem zsC_set (l : List Int) (i : Nat) (z : Int) : setAll (zsC l) i [AV.v (.string (zS z))] = zsC (l.set i z) := by
  simp [setAll, zsC, List.map_set]
theorem zsC_snoc (l : List Int) (z : Int) : zsC l ++ ([AV.v (.string (zS z))] ++ []) = zsC (l ++ [z]) := by simp [zsC]
/-- A row of integers of any size that is only read. -/
def zRow (l : List Int) : AV := .sl 1 l.length (zsC l)
theorem nr_zRow (l : List Int) : nr (zRow l) := nrl_zsC l
theorem zne0_ok {Λ : Lai} (z : Int) : OkP Λ Tryz.prog 277 [.v (.string (zS z))] (.v (.bool (z != 0))) := by
  refine okp_intro hT 5 Tryz.func277 rfl rfl rfl (Nat.le_of_ble_eq_true rfl) trivial ?_
  intro w0 F0 I
  repeat (first|refine z2 ?_|refine z1 ?_|refine z3 ?_|refine z4 ?_|refine z5 ?_)
  refine awp_ret ⟨.inl rfl, ret_one rfl ?_⟩
  show Sub _ (AV.v (.bool (!((zS z).toList == (⟨#[48]⟩ : ByteArray).toList)))) _
  rw [z_beq0]
  have e : (!(decide (z = 0))) = (z != 0) := by by_cases h : z = 0 <;> simp [h]
  rw [e]
  exact .refl trivial
theorem idxz_ok {Λ : Lai} (l : List Int) (hlen : l.length ≤ 1000000000000) : OkP Λ Tryz.prog 276 [zRow l, .fn 277 []] (.v (.int .i64 (pivL l))) := by
  refine okp_intro hT 19 Tryz.func276 rfl rfl rfl (Nat.le_of_ble_eq_true rfl) trivial ?_
  intro w0 F0 I
  unfold zRow
  repeat (first|refine z2 ?_|refine z1 ?_|refine z3 ?_|refine z4 ?_|refine z5 ?_)
  refine awp_loop (fun x : { x : Nat // x ≤ l.length ∧ ∀ i (hi : i < l.length), i < x → (l[i] != 0) = false } => ⟨[(0, .sl 1 l.length (zsC l)), (1, .fn 277 []), (7, .v (.int .i64 l.length)), (8, .v (.int .i64 x.1))], [], 0⟩) (fun x => l.length - x.1) ⟨0, Nat.zero_le _, fun i _ hi => by omega⟩ (le_sub ⟨rfl, rfl, rfl, rfl, trivial⟩ rfl rfl) ?_
  rintro ⟨j, hj, hf⟩
  simp only at hj hf ⊢
  obtain ⟨a1, a2⟩ := idxL_at (fun n : Int => n != 0) l j hj hf
  repeat (first|refine z2 ?_|refine z1 ?_|refine z3 ?_|refine z4 ?_|refine z5 ?_)
  refine awp_cond rfl (fun h2 => ?_) (fun h2 => ?_)
  · have hjl : j < l.length := by have := of_decide_eq_true h2; omega
    repeat (first|refine z2 ?_|refine z1 ?_|refine z3 ?_|refine z4 ?_|refine z5 ?_)
    refine al_pure hT rfl (pure_load_pt rfl rfl rfl (zsC_drop (j := j) (by omega) hjl)) rfl rfl True.intro ?_
    repeat (first|refine z2 ?_|refine z1 ?_|refine z3 ?_|refine z4 ?_|refine z5 ?_)
    refine zc (zne0_ok l[j]) ?_
    repeat (first|refine z2 ?_|refine z1 ?_|refine z3 ?_|refine z4 ?_|refine z5 ?_)
    refine awp_cond rfl (fun h3 => ?_) (fun h3 => ?_)
    · repeat (first|refine z2 ?_|refine z1 ?_|refine z3 ?_|refine z4 ?_|refine z5 ?_)
      refine awp_ret ⟨.inl rfl, ret_one rfl ?_⟩
      unfold pivL
      rw [a1 hjl h3]
      exact .refl trivial
    · repeat (first|refine z2 ?_|refine z1 ?_|refine z3 ?_|refine z4 ?_|refine z5 ?_)
      refine ⟨⟨j + 1, hjl, fun i hi hij => ?_⟩, le_sub ⟨rfl, rfl, rfl, rfl, trivial⟩ rfl rfl, by show l.length - (j + 1) < l.length - j; omega⟩
      rcases Nat.lt_or_ge i j with h4 | h4
      · exact hf i hi h4
      · have : i = j := by omega
        subst this
        exact h3
  · have hjl : j = l.length := by have := of_decide_eq_false h2; omega
    repeat (first|refine z2 ?_|refine z1 ?_|refine z3 ?_|refine z4 ?_|refine z5 ?_)
    refine awp_ret ⟨.inl rfl, ret_one rfl ?_⟩
    unfold pivL
    rw [a2 hjl]
    exact .refl trivial
theorem lead_ok {Λ : Lai} (l : List Int) (hlen : l.length ≤ 1000000000000) : OkP Λ Tryz.prog 258 [zRow l] (.v (.int .i64 (pivL l))) := by
  refine okp_intro hT 5 Tryz.func258 rfl rfl rfl (Nat.le_of_ble_eq_true rfl) trivial ?_
  intro w0 F0 I
  repeat (first|refine z2 ?_|refine z1 ?_|refine z3 ?_|refine z4 ?_|refine z5 ?_)
  refine al_call (idxz_ok l hlen) rfl rfl rfl rfl (.cons (.refl (nr_zRow l)) (.cons (.refl trivial) .nil)) (.inl trivial) rfl rfl ?_
  repeat (first|refine z2 ?_|refine z1 ?_|refine z3 ?_|refine z4 ?_|refine z5 ?_)
  (exact awp_ret ⟨.inl rfl, ret_one rfl (.refl (by first | trivial | exact nrl_u64s _))⟩)
set_option maxRecDepth 10000 in
theorem longof_ok (l : List Int) (hl : small64L l) (hlen : l.length ≤ 1000000000) : OkW (laiOf Tryz.prog) Tryz.prog 217 [rowS l] ⟨[], [], 0⟩ (.ref 0 0 1 0 l.length) ⟨[], [(0, [⟨1, zsC l⟩])], 1⟩ := by
  refine okw_intro hT 22 Tryz.func217 rfl rfl rfl (Nat.le_of_ble_eq_true rfl) (Nat.zero_le _) ?_
  intro w0 F0 I β0 hβ
  unfold rowS
  repeat (first|refine z2 ?_|refine z1 ?_|refine z3 ?_|refine z4 ?_|refine z5 ?_)
  refine al_make hT rfl rfl rfl rfl rfl rfl rfl rfl rfl rfl (by omega) (by omega) (by show (16 : Int) * _ ≤ _; omega) (by omega) ?_
  repeat (first|refine z2 ?_|refine z1 ?_|refine z3 ?_|refine z4 ?_|refine z5 ?_)
  refine awp_loop (fun x : { x : Nat // x ≤ l.length } => ⟨[(3, .ref 0 0 1 0 x.1), (9, .sl 1 l.length (i64s l)), (10, .v (.int .i64 l.length)), (11, .v (.int .i64 x.1))], [(0, [⟨1, zsC (l.take x.1)⟩])], 1⟩) (fun x => l.length - x.1)
    ⟨0, Nat.zero_le _⟩ (le_sub ⟨rfl, rfl, rfl, rfl, trivial⟩ rfl rfl) ?_
  rintro ⟨j, hj⟩
  simp only at hj ⊢
  repeat (first|refine z2 ?_|refine z1 ?_|refine z3 ?_|refine z4 ?_|refine z5 ?_)
  refine awp_cond rfl (fun h => ?_) (fun h => ?_)
  · have hjl : j < l.length := by have := of_decide_eq_true h; omega
    have hx := hl l[j] (List.getElem_mem hjl)
    repeat (first|refine z2 ?_|refine z1 ?_|refine z3 ?_|refine z4 ?_|refine z5 ?_)
    refine al_pure hT rfl (pure_load_pt rfl rfl rfl (i64s_drop (j := j) (by omega) hjl)) rfl rfl True.intro ?_
    repeat (first|refine z2 ?_|refine z1 ?_|refine z3 ?_|refine z4 ?_|refine z5 ?_)
    refine zc (zof_ok l[j] (by omega) (by omega)) ?_
    refine al_litF hT rfl rfl rfl rfl rfl rfl rfl rfl rfl ?_
    refine al_append hT rfl rfl rfl rfl rfl rfl rfl rfl rfl rfl rfl rfl rfl (by show (zsC _).length = _ * 1; rw [zsC_len, List.length_take]; omega) (fun g r h e => by cases e; cases h; rfl) (by intro x hx; simp only [List.append_nil, List.mem_singleton] at hx; subst hx; rfl) (by show (_ + 1) * 16 ≤ _; omega) (by omega) ?_
    repeat (first|refine z2 ?_|refine z1 ?_|refine z3 ?_|refine z4 ?_|refine z5 ?_)
    refine ⟨⟨j + 1, hjl⟩, ?_, by show l.length - (j + 1) < l.length - j; omega⟩
    refine le_ren (fun g t => cond (Nat.beq g 0) (some (1, t)) none) ⟨⟨_, rfl, .ref rfl Nat.zero_lt_one⟩, ⟨_, rfl, .refl (nrl_i64s l)⟩, ⟨_, rfl, .refl trivial⟩, ⟨_, rfl, .refl trivial⟩, trivial⟩ ⟨⟨⟨Nat.zero_lt_one, .inr ⟨1, 0, _, rfl, rfl, rfl, ?_⟩⟩, trivial⟩, trivial⟩ rfl ⟨by show β0.length ≤ _; rw [hβ]; exact Nat.zero_le _, fun g t h => by (have h' : g < β0.length := h); rw [hβ] at h'; exact absurd h' (Nat.not_lt_zero _)⟩
    exact wkl_eq (by show zsC (l.take j) ++ ([AV.v (.string (zS l[j]))] ++ []) = zsC (l.take (j + 1)); rw [zsC_snoc, List.take_add_one, List.getElem?_eq_getElem hjl, Option.toList_some]) (nrl_zsC _)
  · have hjl : j = l.length := by have := of_decide_eq_false h; omega
    subst hjl
    rw [List.take_length]
    repeat (first|refine z2 ?_|refine z1 ?_|refine z3 ?_|refine z4 ?_|refine z5 ?_)
    exact awp_ret ⟨.inl rfl, _, Le.refl _ _, rfl, rfl, rfl⟩
end Go.Proofs.YtlbhgejbfhhipaaGreatDoor

/- Walks: a row less a multiple of another one; a row negated; short rows. -/
namespace Go.Proofs.YtlbhgejbfhhipaaGreatDoor
open Go Go.Am Go.Lib Go.Sp Z1 Z2 Z3 Z4 Z5 Z6
/-- A row with o zeros ahead. -/
def padZ (o : Nat) (l : List Int) : List Int := List.replicate o 0 ++ l
theorem padZ_len (o : Nat) (l : List Int) : (padZ o l).length = o + l.length := by simp [padZ]
theorem padZ_set (o : Nat) (l : List Int) (j : Nat) (v : Int) : (padZ o l).set (o + j) v = padZ o (l.set j v) := by
  unfold padZ
  rw [List.set_append_right _ _ (by simp)]
  simp
theorem padZ_at {o : Nat} {l : List Int} {j : Nat} (h : j < l.length) : (padZ o l)[o + j]'(by rw [padZ_len]; omega) = l[j] := by
  unfold padZ
  rw [List.getElem_append_right (by simp)]
  simp
def mixL (a r : List Int) (j : Nat) : List Int := a.take j ++ r.drop j
theorem mixL_len {a r : List Int} (h : a.length = r.length) {j : Nat} (hj : j ≤ r.length) : (mixL a r j).length = r.length := by simp [mixL]; omega
theorem mixL_at {a r : List Int} (h : a.length = r.length) {j : Nat} (hj : j < r.length) : (mixL a r j)[j]'(by rw [mixL_len h (by omega)]; exact hj) = r[j] := by
  unfold mixL
  rw [List.getElem_append_right (by simp; omega)]
  simp [Nat.min_eq_left (show j ≤ a.length by omega)]
theorem mixL_set {a r : List Int} (h : a.length = r.length) {j : Nat} (hj : j < r.length) : (mixL a r j).set j (a[j]'(by omega)) = mixL a r (j + 1) := by
  have h1 : (a.take j).length = j := by rw [List.length_take]; omega
  unfold mixL
  rw [List.set_append_right _ _ (by omega), h1, Nat.sub_self, List.drop_eq_getElem_cons hj, List.set_cons_zero, List.take_add_one, List.getElem?_eq_getElem (by omega), Option.toList_some, List.append_assoc]
  rfl
theorem mixL_all {a r : List Int} (h : a.length = r.length) : mixL a r r.length = a := by
  unfold mixL
  rw [List.drop_length, List.append_nil, ← h, List.take_length]
set_option maxRecDepth 10000 in
theorem less_ok (o n : Nat) (k : Int) (r s : List Int) (hr : r.length = n) (hs : s.length = n) (hn : n ≤ 1000000) (hk : okZ k) (hb : ∀ i (h1 : i < r.length) (h2 : i < s.length), okZ s[i] ∧ okN (k.natAbs * s[i].natAbs) ∧ okN (r[i].natAbs + (k * s[i]).natAbs)) : OkW (laiOf Tryz.prog) Tryz.prog 226 [.ref 0 0 1 o n, .v (.string (zS k)), .sl 1 n (zsC s)] ⟨[], [(0, [⟨1, zsC (padZ o r)⟩])], 1⟩ (.tup []) ⟨[], [(0, [⟨1, zsC (padZ o (lessR k s r))⟩])], 1⟩ := by
  refine okw_intro hT 29 Tryz.func226 rfl rfl rfl (Nat.le_of_ble_eq_true rfl) (Nat.le_refl _) ?_
  intro w0 F0 I β0 hβ
  have hll : (lessR k s r).length = r.length := by rw [lessR_len hs hr, hr]
  repeat (first|refine z2 ?_|refine z1 ?_|refine z3 ?_|refine z4 ?_|refine z5 ?_)
  refine awp_cond rfl (fun h => ?_) (fun h => ?_)
  · have h : ((zS k).toList == (⟨#[48]⟩ : ByteArray).toList) = true := h
    rw [z_beq0] at h
    have h := of_decide_eq_true h
    subst h
    have e : lessR 0 s r = r := by
      apply List.ext_getElem (by rw [lessR_len hs hr, hr])
      intro j h1 h2
      simp [lessR]
    rw [e]
    exact awp_ret ⟨.inl rfl, _, Le.refl _ _, rfl, rfl, rfl⟩
  clear h
  repeat (first|refine z2 ?_|refine z1 ?_|refine z3 ?_|refine z4 ?_|refine z5 ?_)
  refine awp_loop (fun x : { x : Nat // x ≤ n } => ⟨[(0, .ref 0 0 1 o n), (1, .v (.string (zS k))), (10, .sl 1 n (zsC s)), (11, .v (.int .i64 n)), (12, .v (.int .i64 x.1))], [(0, [⟨1, zsC (padZ o (mixL (lessR k s r) r x.1))⟩])], 1⟩) (fun x => n - x.1)
    ⟨0, Nat.zero_le _⟩ (le_sub ⟨rfl, rfl, rfl, rfl, rfl, trivial⟩ rfl rfl) ?_
  rintro ⟨j, hj⟩
  simp only at hj ⊢
  repeat (first|refine z2 ?_|refine z1 ?_|refine z3 ?_|refine z4 ?_|refine z5 ?_)
  refine awp_cond rfl (fun h => ?_) (fun h => ?_)
  · have hjn : j < n := by have := of_decide_eq_true h; omega
    have hjr : j < r.length := by omega
    have hjs : j < s.length := by omega
    obtain ⟨b1, b2, b3⟩ := hb j hjr hjs
    have hml := mixL_len hll (j := j) (by omega)
    have hpl : o + j < (padZ o (mixL (lessR k s r) r j)).length := by rw [padZ_len]; omega
    have hat : (padZ o (mixL (lessR k s r) r j))[o + j] = r[j] := by rw [padZ_at (by omega), mixL_at hll hjr]
    have hmul := zmul_ok k s[j] hk b1 b2
    have hsub := zsub_ok r[j] (k * s[j]) b3
    repeat (first|refine z2 ?_|refine z1 ?_|refine z3 ?_|refine z4 ?_|refine z5 ?_)
    refine al_pure hT rfl (pure_load_pt rfl rfl rfl (zsC_drop (j := j) (by omega) hjs)) rfl rfl True.intro ?_
    repeat (first|refine z2 ?_|refine z1 ?_|refine z3 ?_|refine z4 ?_|refine z5 ?_)
    refine awp_region_draw [] hmix (by kernel_rfl) ?_
    repeat (first|refine z2 ?_|refine z1 ?_|refine z3 ?_|refine z4 ?_|refine z5 ?_)
    refine al_pure hT rfl (pure_load_adr rfl rfl rfl rfl (zsC_at (j := o + j) (by omega) hpl)) rfl rfl True.intro ?_
    rw [hat]
    repeat (first|refine z2 ?_|refine z1 ?_|refine z3 ?_|refine z4 ?_|refine z5 ?_)
    refine zc (hmul) ?_
    repeat (first|refine z2 ?_|refine z1 ?_|refine z3 ?_|refine z4 ?_|refine z5 ?_)
    refine zc (hsub) ?_
    repeat (first|refine z2 ?_|refine z1 ?_|refine z3 ?_|refine z4 ?_|refine z5 ?_)
    refine al_store hT rfl rfl rfl rfl rfl rfl rfl rfl rfl (by show (o * 1 + (j : Int).toNat * 1) + 1 ≤ (zsC _).length; rw [zsC_len]; omega) (by intro x hx; simp only [List.mem_singleton] at hx; subst hx; rfl) ?_
    repeat (first|refine z2 ?_|refine z1 ?_|refine z3 ?_|refine z4 ?_|refine z5 ?_)
    refine ⟨⟨j + 1, hjn⟩, le_sub ⟨rfl, rfl, rfl, rfl, rfl, trivial⟩ ?_ rfl, by show n - (j + 1) < n - j; omega⟩
    show _ = [(0, [Row.mk 1 (setAll (zsC (padZ o (mixL (lessR k s r) r j))) (o * 1 + (j : Int).toNat * 1) [AV.v (.string (zS (r[j] - k * s[j])))])])]
    have e : (lessR k s r)[j]'(by omega) = r[j] - k * s[j] := by simp [lessR]
    rw [show o * 1 + (j : Int).toNat * 1 = o + j by omega, zsC_set, padZ_set, ← e, mixL_set hll hjr]
  · have hjn : j = r.length := by have := of_decide_eq_false h; omega
    rw [hjn, mixL_all hll]
    repeat (first|refine z2 ?_|refine z1 ?_|refine z3 ?_|refine z4 ?_|refine z5 ?_)
    exact ⟨.inr rfl, _, Le.refl _ _, rfl, rfl, rfl⟩
set_option maxRecDepth 10000 in
theorem negate_ok (o n : Nat) (r : List Int) (hr : r.length = n) (hn : n ≤ 1000000) (hb : ∀ z ∈ r, okZ z) : OkW (laiOf Tryz.prog) Tryz.prog 227 [.ref 0 0 1 o n] ⟨[], [(0, [⟨1, zsC (padZ o r)⟩])], 1⟩ (.tup []) ⟨[], [(0, [⟨1, zsC (padZ o (negR r))⟩])], 1⟩ := by
  refine okw_intro hT 17 Tryz.func227 rfl rfl rfl (Nat.le_of_ble_eq_true rfl) (Nat.le_refl _) ?_
  intro w0 F0 I β0 hβ
  have hll : (negR r).length = r.length := by simp [negR]
  repeat (first|refine z2 ?_|refine z1 ?_|refine z3 ?_|refine z4 ?_|refine z5 ?_)
  refine awp_loop (fun x : { x : Nat // x ≤ n } => ⟨[(0, .ref 0 0 1 o n), (4, .ref 0 0 1 o n), (5, .v (.int .i64 n)), (6, .v (.int .i64 x.1))], [(0, [⟨1, zsC (padZ o (mixL (negR r) r x.1))⟩])], 1⟩) (fun x => n - x.1)
    ⟨0, Nat.zero_le _⟩ (le_sub ⟨rfl, rfl, rfl, rfl, trivial⟩ rfl rfl) ?_
  rintro ⟨j, hj⟩
  simp only at hj ⊢
  repeat (first|refine z2 ?_|refine z1 ?_|refine z3 ?_|refine z4 ?_|refine z5 ?_)
  refine awp_cond rfl (fun h => ?_) (fun h => ?_)
  · have hjn : j < n := by have := of_decide_eq_true h; omega
    have hjr : j < r.length := by omega
    have hml := mixL_len hll (j := j) (by omega)
    have hpl : o + j < (padZ o (mixL (negR r) r j)).length := by rw [padZ_len]; omega
    have hat : (padZ o (mixL (negR r) r j))[o + j] = r[j] := by rw [padZ_at (by omega), mixL_at hll hjr]
    repeat (first|refine z2 ?_|refine z1 ?_|refine z3 ?_|refine z4 ?_|refine z5 ?_)
    refine al_pure hT rfl (pure_load_adr rfl rfl rfl rfl (zsC_at (j := o + j) (by omega) hpl)) rfl rfl True.intro ?_
    rw [hat]
    repeat (first|refine z2 ?_|refine z1 ?_|refine z3 ?_|refine z4 ?_|refine z5 ?_)
    refine zc (neg_ok r[j] (hb _ (List.getElem_mem hjr))) ?_
    repeat (first|refine z2 ?_|refine z1 ?_|refine z3 ?_|refine z4 ?_|refine z5 ?_)
    refine al_store hT rfl rfl rfl rfl rfl rfl rfl rfl rfl (by show (o * 1 + (j : Int).toNat * 1) + 1 ≤ (zsC _).length; rw [zsC_len]; omega) (by intro x hx; simp only [List.mem_singleton] at hx; subst hx; rfl) ?_
    repeat (first|refine z2 ?_|refine z1 ?_|refine z3 ?_|refine z4 ?_|refine z5 ?_)
    refine ⟨⟨j + 1, hjn⟩, le_sub ⟨rfl, rfl, rfl, rfl, trivial⟩ ?_ rfl, by show n - (j + 1) < n - j; omega⟩
    show _ = [(0, [Row.mk 1 (setAll (zsC (padZ o (mixL (negR r) r j))) (o * 1 + (j : Int).toNat * 1) [AV.v (.string (zS (-r[j])))])])]
    have e : (negR r)[j]'(by omega) = -r[j] := by simp [negR]
    rw [show o * 1 + (j : Int).toNat * 1 = o + j by omega, zsC_set, padZ_set, ← e, mixL_set hll hjr]
  · have hjn : j = r.length := by have := of_decide_eq_false h; omega
    rw [hjn, mixL_all hll]
    repeat (first|refine z2 ?_|refine z1 ?_|refine z3 ?_|refine z4 ?_|refine z5 ?_)
    exact ⟨.inr rfl, _, Le.refl _ _, rfl, rfl, rfl⟩
end Go.Proofs.YtlbhgejbfhhipaaGreatDoor

/- Walks: the way to normal form. -/
namespace Go.Proofs.YtlbhgejbfhhipaaGreatDoor
open Go Go.Am Go.Lib Go.Sp Z1 Z2 Z3 Z4 Z5 Z6
/-- The rows of a matrix, each with o zeros ahead, and the cells that lead to rows of group g. -/
def rowsO (o : Nat) (M : List (List Int)) : List Row := M.map fun r => ⟨1, zsC (padZ o r)⟩
def refsC (g m o n : Nat) : List AV := (List.range m).map fun i => AV.ref g i 1 o n
theorem rowsO_at {o : Nat} {M : List (List Int)} {i : Nat} (h : i < M.length) : (rowsO o M)[i]? = some ⟨1, zsC (padZ o M[i])⟩ := by simp [rowsO, h]
theorem refsC_at {g m o n i j : Nat} (h : i = j) (hj : j < m) : (refsC g m o n)[i]? = some (.ref g j 1 o n) := by
  subst h; simp [refsC, hj]
theorem refsC_len (g m o n : Nat) : (refsC g m o n).length = m := by simp [refsC]
theorem rowsO_len (o : Nat) (M : List (List Int)) : (rowsO o M).length = M.length := by simp [rowsO]
/-- Who the rows are after a swap. -/
def sw (d a i : Nat) : Nat := if i = d then a else if i = a then d else i
theorem sw_sw (d a i : Nat) : sw d a (sw d a i) = i := by unfold sw; split <;> split <;> (try split) <;> omega
def rho2 (ga gb ga' gb' : Nat) (π : Nat → Nat) : Rho := fun g t => if g = ga' then some (ga, t) else if g = gb' then some (gb, π t) else some (g, t)
theorem le_two {κ : Cx} {st : AS} {env' : List (Nat × AV)} {ga gb ga' gb' nx' : Nat} {cells cells' : List AV} {rows' : List Row} (π : Nat → Nat) (h1 : ga' ≠ gb') (h2 : ga ≠ gb) (hlt : ga' < nx' ∧ gb' < nx') (hb : κ.β0.length ≤ ga' ∧ κ.β0.length ≤ gb')
    (hc : st.row ga 0 = some ⟨1, cells⟩) (hw : WkL st (rho2 ga gb ga' gb' π) nx' cells cells') (hr : ∀ i r, rows'[i]? = some r → st.row gb (π i) = some r ∧ nrl r.cells) (hπ : ∀ i j, i < rows'.length → j < rows'.length → π i = π j → i = j)
    (henv : envLe st (rho2 ga gb ga' gb' π) nx' env') : Le κ st ⟨env', [(ga', [⟨1, cells'⟩]), (gb', rows')], nx'⟩ := by
  have hrow : ∀ g t r, (⟨env', [(ga', [⟨1, cells'⟩]), (gb', rows')], nx'⟩ : AS).row g t = some r → (g = ga' ∧ t = 0 ∧ r = ⟨1, cells'⟩) ∨ (g = gb' ∧ rows'[t]? = some r) := fun g t r h => by
    unfold AS.row at h
    simp only [Am.look] at h
    cases e1 : Nat.beq ga' g with
    | true =>
      have := Nat.eq_of_beq_eq_true e1
      subst this
      simp only [e1, cond_true, Option.bind_some] at h
      cases t with
      | zero => simp at h; exact .inl ⟨rfl, rfl, h.symm⟩
      | succ t => simp at h
    | false =>
      cases e2 : Nat.beq gb' g with
      | true =>
        have := Nat.eq_of_beq_eq_true e2
        subst this
        simp only [e1, e2, cond_true, cond_false, Option.bind_some] at h
        exact .inr ⟨rfl, h⟩
      | false => simp [e1, e2] at h
  refine le_mk (st2 := ⟨env', [(ga', [⟨1, cells'⟩]), (gb', rows')], nx'⟩) (rho2 ga gb ga' gb' π) henv (fun g t r h => ?_) ⟨by show κ.β0.length ≤ nx'; omega, fun g t h => ?_⟩ (fun g1 t1 r1 g2 t2 r2 p k1 k2 e1 e2 => ?_)
  · rcases hrow g t r h with ⟨rfl, rfl, rfl⟩ | ⟨rfl, hq⟩
    · exact ⟨hlt.1, .inr ⟨ga, 0, _, by simp [rho2], hc, rfl, hw⟩⟩
    · obtain ⟨a1, a2⟩ := hr t r hq
      exact ⟨hlt.2, .inr ⟨gb, π t, _, by unfold rho2; rw [if_neg (fun e => h1 e.symm), if_pos rfl], a1, rfl, WkL.refl a2⟩⟩
  · unfold rho2
    rw [if_neg (by omega), if_neg (by omega)]
  · rcases hrow g1 t1 r1 k1 with ⟨rfl, rfl, _⟩ | ⟨rfl, q1⟩ <;> rcases hrow g2 t2 r2 k2 with ⟨rfl, rfl, _⟩ | ⟨rfl, q2⟩
    · exact ⟨rfl, rfl⟩
    · unfold rho2 at e1 e2
      rw [if_pos rfl] at e1
      rw [if_neg (fun e => h1 e.symm), if_pos rfl] at e2
      rw [← e1] at e2
      simp only [Option.some.injEq, Prod.mk.injEq] at e2
      exact absurd e2.1.symm h2
    · unfold rho2 at e1 e2
      rw [if_pos rfl] at e2
      rw [if_neg (fun e => h1 e.symm), if_pos rfl] at e1
      rw [← e1] at e2
      simp only [Option.some.injEq, Prod.mk.injEq] at e2
      exact absurd e2.1 h2
    · unfold rho2 at e1 e2
      rw [if_neg (fun e => h1 e.symm), if_pos rfl] at e1 e2
      rw [← e1] at e2
      simp only [Option.some.injEq, Prod.mk.injEq, true_and] at e2
      exact ⟨rfl, hπ t1 t2 (List.getElem?_eq_some_iff.1 q1).1 (List.getElem?_eq_some_iff.1 q2).1 e2.symm⟩
theorem refs_map {st : AS} {ga gb ga' gb' nx' m o n : Nat} {π : Nat → Nat} (h1 : ga' ≠ gb') (hlt : gb' < nx') : ∀ (l : List Nat), WkL st (rho2 ga gb ga' gb' π) nx' (l.map fun i => AV.ref gb (π i) 1 o n) (l.map fun i => AV.ref gb' i 1 o n)
  | [] => .nil
  | i :: l => .cons (.ref (by unfold rho2; rw [if_neg (fun e => h1 e.symm), if_pos rfl]) hlt) (refs_map (m := m) h1 hlt l)
def rhoR (i : Nat) : Rho := fun g t => cond (Nat.beq g 0 && Nat.beq t 0) (some (3, i)) none
theorem rhoR_some {i g t : Nat} {p : Nat × Nat} (h : rhoR i g t = some p) : g = 0 ∧ t = 0 ∧ p = (3, i) := by
  unfold rhoR at h
  cases hb : (Nat.beq g 0 && Nat.beq t 0) with
  | true =>
    rw [hb] at h
    rw [Bool.and_eq_true] at hb
    simp only [cond_true, Option.some.injEq] at h
    exact ⟨Nat.eq_of_beq_eq_true hb.1, Nat.eq_of_beq_eq_true hb.2, h.symm⟩
  | false => rw [hb] at h; cases h
theorem row_two {e : List (Nat × AV)} {cells : List AV} {rows : List Row} {g t : Nat} {r : Row} (h : (⟨e, [(2, [⟨1, cells⟩]), (3, rows)], 4⟩ : AS).row g t = some r) : (g = 2 ∧ t = 0 ∧ r = ⟨1, cells⟩) ∨ (g = 3 ∧ rows[t]? = some r) := by
  unfold AS.row at h
  simp only [Am.look] at h
  cases e1 : Nat.beq 2 g with
  | true =>
    have := Nat.eq_of_beq_eq_true e1
    subst this
    simp only [Nat.beq_refl, cond_true, Option.bind_some] at h
    cases t with
    | zero => simp at h; exact .inl ⟨rfl, rfl, h.symm⟩
    | succ t => simp at h
  | false =>
    cases e2 : Nat.beq 3 g with
    | true =>
      have := Nat.eq_of_beq_eq_true e2
      subst this
      simp only [Nat.beq_refl, e1, cond_true, cond_false, Option.bind_some] at h
      exact .inr ⟨rfl, h⟩
    | false => simp [e1, e2] at h
theorem row_of {st : AS} {cells : List AV} {rows : List Row} (ho : st.objs = [(2, [⟨1, cells⟩]), (3, rows)]) (t : Nat) : st.row 3 t = rows[t]? := by
  unfold AS.row; rw [ho]; rfl
/-- Row i alone is turned. -/
theorem back_row {st : AS} {e : List (Nat × AV)} {cells r0 c1 : List AV} {rows rows' : List Row} {i : Nat} (ho : st.objs = [(2, [⟨1, cells⟩]), (3, rows)]) (hi : rows'[i]? = some ⟨1, c1⟩) (hj : ∀ j, j ≠ i → rows'[j]? = rows[j]?) (hc : hfl c1) :
    Back st (rhoR i) ⟨[], [(0, [⟨1, r0⟩])], 1⟩ ⟨[], [(0, [⟨1, c1⟩])], 1⟩ ⟨e, [(2, [⟨1, cells⟩]), (3, rows')], 4⟩ := by
  intro g t r hr
  rcases row_two hr with ⟨rfl, rfl, rfl⟩ | ⟨rfl, hq⟩
  · refine .inr ⟨by unfold AS.row; rw [ho]; rfl, fun g' t' r' _ h => ?_⟩
    have := (rhoR_some h).2.2
    cases this
  · by_cases hti : t = i
    · subst hti
      rw [hi] at hq
      cases hq
      exact .inl ⟨0, 0, ⟨1, c1⟩, rfl, rfl, by show 3 < 4; omega, rfl, RnL.refl hc⟩
    · refine .inr ⟨by rw [row_of ho, ← hj t hti]; exact hq, fun g' t' r' _ h => ?_⟩
      have := (rhoR_some h).2.2
      simp only [Prod.mk.injEq, true_and] at this
      exact hti this
theorem hand_row {st : AS} {cells r0 : List AV} {rows : List Row} {i : Nat} (ho : st.objs = [(2, [⟨1, cells⟩]), (3, rows)]) (hn : st.nx = 4) (hi : rows[i]? = some ⟨1, r0⟩) (hc : nrl r0) : Hand st (rhoR i) ⟨[], [(0, [⟨1, r0⟩])], 1⟩ :=
  hand_ren ⟨⟨⟨Nat.zero_lt_one, .inr ⟨3, i, _, rfl, by rw [row_of ho]; exact hi, rfl, WkL.refl hc⟩⟩, trivial⟩, trivial⟩ rfl (fun g' t' g t _ h => by
    have := (rhoR_some h).2.2
    cases this
    rw [hn]; omega)
/-- Row d as it is read beside row i, which is turned. -/
theorem read_row {st : AS} {cells : List AV} {rows : List Row} {i d o n : Nat} {s : List Int} (ho : st.objs = [(2, [⟨1, cells⟩]), (3, rows)]) (hd : rows[d]? = some ⟨1, zsC (padZ o s)⟩) (hne : d ≠ i) (hs : s.length = n) : Wk st (rhoR i) 1 (.ref 3 d 1 o n) (.sl 1 n (zsC s)) :=
  .frz (by rw [row_of ho]; exact hd) (fun g' t' h => by
    have := (rhoR_some h).2.2
    simp only [Prod.mk.injEq, true_and] at this
    exact hne this) rfl (by show (o + n) * 1 ≤ (zsC (padZ o s)).length; rw [zsC_len, padZ_len]; omega) (wkl_eq (by
    show ((zsC (padZ o s)).drop (o * 1)).take (n * 1) = zsC s
    unfold padZ zsC
    rw [Nat.mul_one, Nat.mul_one, List.map_append, List.drop_append_of_le_length (by simp), List.drop_of_length_le (by simp), List.nil_append, List.take_of_length_le (by simp; omega)]) (nrl_zsC s))
theorem cells_swap (g m o n d a : Nat) : setAll (setAll (refsC g m o n) d [AV.ref g a 1 o n]) a [AV.ref g d 1 o n] = (List.range m).map fun i => AV.ref g (sw d a i) 1 o n := by
  simp only [setAll]
  apply List.ext_getElem (by simp [refsC])
  intro i h1 h2
  simp only [List.length_map, List.length_range] at h2
  simp only [refsC, List.getElem_set, List.getElem_map, List.getElem_range]
  unfold sw
  by_cases e1 : a = i
  · subst e1
    rw [if_pos rfl]
    by_cases e2 : a = d
    · subst e2; simp
    · simp [e2]
  · rw [if_neg e1]
    by_cases e2 : d = i
    · subst e2; simp
    · rw [if_neg e2, if_neg (fun e => e2 e.symm), if_neg (fun e => e1 e.symm)]
theorem swapM_get {M : List (List Int)} {d a i : Nat} (hd : d < M.length) (ha : a < M.length) (hi : i < M.length) : (swapM M d a)[i]? = M[sw d a i]? := by
  unfold swapM sw
  rw [List.getElem?_set, List.getElem?_set, List.length_set]
  have ea : M.getD a [] = M[a] := by rw [List.getD_eq_getElem?_getD, List.getElem?_eq_getElem ha]; rfl
  have ed : M.getD d [] = M[d] := by rw [List.getD_eq_getElem?_getD, List.getElem?_eq_getElem hd]; rfl
  by_cases e1 : i = d
  · subst e1
    rw [if_pos rfl]
    by_cases e2 : a = i
    · subst e2; rw [if_pos rfl, if_pos ha, ed, if_pos rfl, List.getElem?_eq_getElem ha]
    · rw [if_neg e2, if_pos rfl, if_pos hd, ea, List.getElem?_eq_getElem ha]
  · rw [if_neg e1]
    by_cases e2 : i = a
    · subst e2; rw [if_pos rfl, if_pos hi, if_pos rfl, ed, List.getElem?_eq_getElem hd]
    · rw [if_neg (fun e => e2 e.symm), if_neg (fun e => e1 e.symm), if_neg e2]
theorem rowsO_set {o : Nat} {M : List (List Int)} {i : Nat} {r : List Int} (h : i < M.length) : (rowsO o (M.set i r))[i]? = some ⟨1, zsC (padZ o r)⟩ ∧ ∀ j, j ≠ i → (rowsO o (M.set i r))[j]? = (rowsO o M)[j]? := by
  unfold rowsO
  refine ⟨by simp [h], fun j hj => ?_⟩
  rw [List.getElem?_map, List.getElem?_map, List.getElem?_set_ne (fun e => hj e.symm)]
theorem rowsO_swap {o : Nat} {M : List (List Int)} {d a i : Nat} {r : Row} (hd : d < M.length) (ha : a < M.length) (h : (rowsO o (swapM M d a))[i]? = some r) : (rowsO o M)[sw d a i]? = some r ∧ nrl r.cells := by
  have hi : i < M.length := by
    have := (List.getElem?_eq_some_iff.1 h).1
    rwa [rowsO_len, swap_len] at this
  unfold rowsO at h ⊢
  rw [List.getElem?_map, swapM_get hd ha hi] at h
  rw [List.getElem?_map]
  refine ⟨h, ?_⟩
  cases hx : M[sw d a i]? with
  | none => rw [hx] at h; cases h
  | some x => rw [hx] at h; cases h; exact nrl_zsC _
def atZ : Option Nat → Int
  | none => -1
  | some a => (a : Int)
theorem ech0 {n : Nat} {M : List (List Int)} (h : Rect n M) : Ech n (n - n) 0 [] M := by
  rw [Nat.sub_self]
  exact ⟨h, rfl, Nat.zero_le _, fun i k _ hk => by omega, fun i hi => by omega, fun i hi => by omega, fun i hi => by omega, fun i k _ hk => by omega, fun i _ j hj => by omega⟩
set_option maxHeartbeats 4000000 in
set_option maxRecDepth 20000 in
theorem form_ok (o n : Nat) (M0 : List (List Int)) (hr0 : Rect n M0) (hn : n ≤ 1000000) (hm : M0.length ≤ 1000000) (N G : Nat) (hN : 4 ≤ N) (hb : Bnd M0 N) (hNG : Gr 0 0 N G M0) (hG : okN (G * G + G)) :
    OkW (laiOf Tryz.prog) Tryz.prog 184 [.ref 0 0 1 0 M0.length, .v (.int .i64 n)] ⟨[], [(0, [⟨1, refsC 1 M0.length o n⟩]), (1, rowsO o M0)], 2⟩ (.ref 2 0 1 0 (formM n M0).length) ⟨[], [(2, [⟨1, refsC 3 (formM n M0).length o n⟩]), (3, rowsO o (formM n M0))], 4⟩ := by
  refine okw_intro hT 181 Tryz.func184 rfl rfl rfl (Nat.le_of_ble_eq_true rfl) (Nat.le_add_right 2 2) ?_
  intro w0 F0 I β0 hβ
  have hβ2 : β0.length = 2 := hβ
  obtain ⟨m, hmm⟩ : ∃ m, m = M0.length := ⟨_, rfl⟩
  refine awp_le (le_two (env' := [(0, .ref 2 0 1 0 m), (1, .v (.int .i64 n))]) (ga := 0) (gb := 1) (ga' := 2) (gb' := 3) (nx' := 4) (cells' := refsC 3 m o n) (rows' := rowsO o M0) (fun i => i) (by omega) (by omega) (by omega) (by show β0.length ≤ 2 ∧ β0.length ≤ 3; omega) rfl ?_ ?_ (fun i j _ _ h => h) ?_) ?_
  · rw [hmm]; exact refs_map (m := m) (by omega) (by omega) _
  · intro i r h
    refine ⟨h, ?_⟩
    rw [rowsO, List.getElem?_map] at h
    cases hx : M0[i]? with
    | none => rw [hx] at h; cases h
    | some x => rw [hx] at h; cases h; exact nrl_zsC _
  · exact ⟨⟨_, by rw [hmm]; rfl, .ref rfl (by omega)⟩, ⟨_, rfl, .refl trivial⟩, trivial⟩
  repeat (first|refine z2 ?_|refine z1 ?_|refine z3 ?_|refine z4 ?_|refine z5 ?_)
  refine awp_loop (fun x : { x : (Nat × Nat × Nat) × List Nat × List (List Int) // x.1.1 ≤ n ∧ Ech n (n - x.1.1) x.1.2.1 x.2.1 x.2.2 ∧ x.2.2.length = m ∧ formL n x.1.1 x.1.2.1 x.2.2 = formM n M0 ∧ Bnd x.2.2 x.1.2.2 ∧ 4 ≤ x.1.2.2 ∧ Gr (n - x.1.1) x.1.2.1 x.1.2.2 G x.2.2 } => ⟨[(0, .ref 2 0 1 0 m), (1, .v (.int .i64 n)), (5, .v (.int .i64 x.1.1.2.1)), (6, .v (.int .i64 ((n - x.1.1.1 : Nat) : Int)))], [(2, [⟨1, refsC 3 m o n⟩]), (3, rowsO o x.1.2.2)], 4⟩) (fun x => x.1.1.1)
    ⟨((n, 0, N), [], M0), Nat.le_refl _, ech0 hr0, hmm.symm, rfl, hb, hN, by show Gr (n - n) 0 N G M0; rw [Nat.sub_self]; exact hNG⟩ (le_sub ⟨rfl, rfl, rfl, by show _ = some (AV.v (.int .i64 ((n - n : Nat) : Int))); rw [Nat.sub_self]; rfl, trivial⟩ rfl rfl) ?_
  rintro ⟨⟨⟨k, d, Nd⟩, P, M⟩, hk, he, hl, hF, hB, h4, hG2⟩
  simp only at hk he hl hF hB h4 hG2 ⊢
  have hdm : d ≤ m := by have := he.dle; omega
  (repeat (first | refine awp_seq ?_ | refine awp_block ?_ | refine awp_skip ?_))
  obtain ⟨c, hc⟩ : ∃ c, c = n - k := ⟨_, rfl⟩
  rw [← hc] at he hG2 ⊢
  refine awp_at ⟨[(0, .ref 2 0 1 0 m), (1, .v (.int .i64 n)), (5, .v (.int .i64 d)), (6, .v (.int .i64 c)), (26, .v (.bool (decide (0 < k ∧ d < m))))], [(2, [⟨1, refsC 3 m o n⟩]), (3, rowsO o M)], 4⟩ ?_ ?_
  · refine awp_region ?_
    by_cases hk0 : 0 < k
    · have hdA : decide ((c : Int) < (n : Int)) = true := decide_eq_true (by omega)
      repeat (first|refine z2 ?_|refine z1 ?_|refine z3 ?_|refine z4 ?_|refine z5 ?_|refine z8 ?_|refine z9 ?_)
      refine le_sub ⟨rfl, rfl, rfl, rfl, ?_, trivial⟩ rfl rfl
      refine pick_tt _ _ _ hdA ?_
      by_cases h2 : d < m
      · rw [decide_eq_true (show 0 < k ∧ d < m from ⟨hk0, h2⟩)]; exact decide_eq_true (by omega)
      · rw [decide_eq_false (show ¬ (0 < k ∧ d < m) from fun e => h2 e.2)]; exact decide_eq_false (by omega)
    · have hdA : decide ((c : Int) < (n : Int)) = false := decide_eq_false (by omega)
      repeat (first|refine z2 ?_|refine z1 ?_|refine z3 ?_|refine z4 ?_|refine z5 ?_|refine z8 ?_|refine z9 ?_)
      refine al_pick rfl rfl rfl (v := decide ((c : Int) < (n : Int))) (r := .v (.bool false)) (by rw [hdA]; rfl) rfl rfl ?_
      repeat (first|refine z2 ?_|refine z1 ?_|refine z3 ?_|refine z4 ?_|refine z5 ?_)
      refine le_sub ⟨rfl, rfl, rfl, rfl, ?_, trivial⟩ rfl rfl
      rw [decide_eq_false (show ¬ (0 < k ∧ d < m) from fun e => hk0 e.1)]; rfl
  refine awp_cond rfl (fun h => ?_) (fun h => ?_)
  · obtain ⟨hk0, hd⟩ := of_decide_eq_true h
    clear h
    obtain ⟨k, rfl⟩ : ∃ k', k = k' + 1 := ⟨k - 1, by omega⟩
    rw [formL, if_pos (by omega), ← hc] at hF
    obtain ⟨R, hR⟩ : ∃ R, R = colM c d (fuelM M c) M := ⟨_, rfl⟩
    rw [← hR] at hF
    have hcn : c < n := by omega
    have hNd : 1 ≤ Nd := by omega
    have hUp : up Nd ≤ G := hG2.up h4 (by omega)
    have hUp2 := le_up hNd
    have okG : ∀ {x : Nat}, x ≤ G → okN x := fun h => okN_mono (Nat.le_trans h (Nat.le_add_left _ _)) hG
    have fuel0 : 0 < fuelM M c ∧ ((∀ i, d ≤ i → ent M i c = 0) ∨ ∃ i, d ≤ i ∧ ent M i c ≠ 0 ∧ (ent M i c).natAbs < fuelM M c) := by
      refine ⟨by unfold fuelM; omega, ?_⟩
      by_cases hz : ∀ i, d ≤ i → ent M i c = 0
      · exact .inl hz
      · obtain ⟨i, hi⟩ := Classical.not_forall.1 hz
        obtain ⟨g1, g2⟩ := Classical.not_imp.1 hi
        exact .inr ⟨i, g1, g2, fuel_ok M c i⟩
    repeat (first|refine z2 ?_|refine z1 ?_|refine z3 ?_|refine z4 ?_|refine z5 ?_)
    refine awp_loop (fun x : { x : Nat × List (List Int) // Ech n c d P x.2 ∧ x.2.length = m ∧ Ph c d Nd x.2 ∧ colM c d x.1 x.2 = R ∧ 0 < x.1 ∧ ((∀ i, d ≤ i → ent x.2 i c = 0) ∨ ∃ i, d ≤ i ∧ ent x.2 i c ≠ 0 ∧ (ent x.2 i c).natAbs < x.1) } => ⟨[(0, .ref 2 0 1 0 m), (1, .v (.int .i64 n)), (5, .v (.int .i64 d)), (6, .v (.int .i64 c))], [(2, [⟨1, refsC 3 m o n⟩]), (3, rowsO o x.1.2)], 4⟩) (fun x => x.1.1)
      ⟨(fuelM M c, M), he, hl, .inl hB, hR.symm, fuel0.1, fuel0.2⟩ (le_sub ⟨rfl, rfl, rfl, rfl, trivial⟩ rfl rfl) ?_
    rintro ⟨⟨f, A⟩, ae, al, aPh, aR, af, afu⟩
    simp only at ae al aPh aR af afu ⊢
    have aB : Bnd A G := (aPh.bnd hNd).mono (by have := hUp2.1; omega)
    have arow : ∀ i (hi : i < A.length), A[i].length = n := fun i hi => ae.rect _ (List.getElem_mem hi)
    have aok : ∀ i (hi : i < A.length) (hc' : c < A[i].length), okZ (A[i][c]) := fun i hi hc' => by
      rw [← ent_get hi hc']; exact okG (aB i c)
    repeat (first|refine z2 ?_|refine z1 ?_|refine z3 ?_|refine z4 ?_|refine z5 ?_)
    refine awp_loop (fun x : { x : Nat // x ≤ m - d } => ⟨[(0, .ref 2 0 1 0 m), (1, .v (.int .i64 n)), (5, .v (.int .i64 d)), (6, .v (.int .i64 c)), (7, .v (.int .i64 (atZ (pickAt A c d x.1)))), (8, .v (.int .i64 ((d + x.1 : Nat) : Int)))], [(2, [⟨1, refsC 3 m o n⟩]), (3, rowsO o A)], 4⟩) (fun x => m - d - x.1) ⟨0, Nat.zero_le _⟩ (le_sub ⟨rfl, rfl, rfl, rfl, rfl, rfl, trivial⟩ rfl rfl) ?_
    · rintro ⟨j, hj⟩
      simp only at hj ⊢
      repeat (first|refine z2 ?_|refine z1 ?_|refine z3 ?_|refine z4 ?_|refine z5 ?_)
      refine awp_cond rfl (fun h => ?_) (fun h => ?_)
      · have hjm : d + j < m := by have := of_decide_eq_true h; omega
        clear h
        have hjA : d + j < A.length := by omega
        have hcj := arow (d + j) hjA
        have hx := aok (d + j) hjA (by omega)
        have hpad : o + c < (padZ o A[d + j]).length := by rw [padZ_len]; omega
        have hxe : (padZ o A[d + j])[o + c] = A[d + j][c] := padZ_at (by omega)
        (repeat (first | refine awp_seq ?_ | refine awp_block ?_ | refine awp_skip ?_))
        obtain ⟨cnd, hcnd⟩ : ∃ b : Bool, b = decide (A[d + j][c] ≠ 0 ∧ (∀ a, pickAt A c d j = some a → (A[d + j][c]).natAbs < (ent A a c).natAbs)) := ⟨_, rfl⟩
        refine awp_at ⟨[(0, .ref 2 0 1 0 m), (1, .v (.int .i64 n)), (5, .v (.int .i64 d)), (6, .v (.int .i64 c)), (7, .v (.int .i64 (atZ (pickAt A c d j)))), (8, .v (.int .i64 ((d + j : Nat) : Int))), (67, .v (.bool cnd))], [(2, [⟨1, refsC 3 m o n⟩]), (3, rowsO o A)], 4⟩ ?_ ?_
        ·
          refine awp_region_draw [] hmix (by kernel_rfl) ?_
          repeat (first|refine z2 ?_|refine z1 ?_|refine z3 ?_|refine z4 ?_|refine z5 ?_)
          refine al_pure hT rfl (pure_load_adr rfl rfl rfl rfl (refsC_at (j := d + j) (by omega) hjm)) rfl rfl True.intro ?_
          repeat (first|refine z2 ?_|refine z1 ?_|refine z3 ?_|refine z4 ?_|refine z5 ?_)
          refine al_pure hT rfl (pure_load_adr rfl rfl rfl (rowsO_at hjA) (zsC_at (j := o + c) (by omega) hpad)) rfl rfl True.intro ?_
          rw [hxe]
          by_cases hx0 : A[d + j][c] = 0
          · have hdA : (!((zS A[d + j][c]).toList == (⟨#[48]⟩ : ByteArray).toList)) = false := by rw [z_beq0, decide_eq_true hx0]; rfl
            repeat (first|refine z2 ?_|refine z1 ?_|refine z3 ?_|refine z4 ?_|refine z5 ?_|refine z8 ?_|refine z9 ?_)
            refine al_pick rfl rfl rfl (v := (!((zS A[d + j][c]).toList == (⟨#[48]⟩ : ByteArray).toList))) (r := .v (.bool false)) (by rw [hdA]; rfl) rfl rfl ?_
            repeat (first|refine z2 ?_|refine z1 ?_|refine z3 ?_|refine z4 ?_|refine z5 ?_)
            refine le_sub ⟨rfl, rfl, rfl, rfl, rfl, rfl, ?_, trivial⟩ rfl rfl
            rw [hcnd, decide_eq_false (show ¬ (A[d + j][c] ≠ 0 ∧ (∀ a, pickAt A c d j = some a → (A[d + j][c]).natAbs < (ent A a c).natAbs)) from fun e => e.1 hx0)]; rfl
          · have hdA : (!((zS A[d + j][c]).toList == (⟨#[48]⟩ : ByteArray).toList)) = true := by rw [z_beq0, decide_eq_false hx0]; rfl
            cases hpk : pickAt A c d j with
            | none =>
              have hdB : decide (atZ none < 0) = true := by decide
              repeat (first|refine z2 ?_|refine z1 ?_|refine z3 ?_|refine z4 ?_|refine z5 ?_|refine z8 ?_|refine z9 ?_)
              refine al_on_pick rfl rfl rfl ?_ rfl (v := decide (atZ none < 0)) (r := .v (.bool true)) rfl ?_ rfl rfl ?_
              focus (rw [hdA]; rfl)
              focus (rw [hdB]; rfl)
              repeat (first|refine z2 ?_|refine z1 ?_|refine z3 ?_|refine z4 ?_|refine z5 ?_|refine z8 ?_|refine z9 ?_)
              refine le_sub ⟨rfl, rfl, rfl, rfl, rfl, rfl, ?_, trivial⟩ rfl rfl
              refine pick_tt _ _ _ hdA ?_
              rw [hcnd, decide_eq_true (show A[d + j][c] ≠ 0 ∧ (∀ a, pickAt A c d j = some a → (A[d + j][c]).natAbs < (ent A a c).natAbs) from ⟨hx0, fun a ha => by rw [hpk] at ha; cases ha⟩)]
            | some a =>
              obtain ⟨a1, a2, _, _⟩ := pick_some hpk
              have haA : a < A.length := by omega
              have hca := arow a haA
              have hy := aok a haA (by omega)
              have hpad2 : o + c < (padZ o A[a]).length := by rw [padZ_len]; omega
              have hye : (padZ o A[a])[o + c] = A[a][c] := padZ_at (by omega)
              have hdB : decide ((a : Int) < 0) = false := decide_eq_false (by omega)
              rw [show atZ (some a) = (a : Int) from rfl]
              have hcmp := zcmp_ok (Λ := laiOf Tryz.prog) ((A[d + j][c]).natAbs : Int) ((A[a][c]).natAbs : Int) (okZ_nat hx) (okZ_nat hy)
              rw [zS_nat, zS_nat] at hcmp
              repeat (first|refine z2 ?_|refine z1 ?_|refine z3 ?_|refine z4 ?_|refine z5 ?_|refine z8 ?_|refine z9 ?_)
              refine al_on hT rfl rfl rfl (by first | (rw [hdA]; rfl) | (rw [hdB]; rfl)) (pure_load_adr rfl rfl rfl rfl (refsC_at (j := d + j) (by omega) hjm)) rfl rfl True.intro ?_
              repeat (first|refine z2 ?_|refine z1 ?_|refine z3 ?_|refine z4 ?_|refine z5 ?_|refine z8 ?_|refine z9 ?_)
              refine al_on hT rfl rfl rfl (by first | (rw [hdA]; rfl) | (rw [hdB]; rfl)) (pure_load_adr rfl rfl rfl (rowsO_at hjA) (zsC_at (j := o + c) (by omega) hpad)) rfl rfl True.intro ?_
              rw [hxe]
              repeat (first|refine z2 ?_|refine z1 ?_|refine z3 ?_|refine z4 ?_|refine z5 ?_|refine z8 ?_|refine z9 ?_)
              refine zo (abs_ok A[d + j][c] hx) ?_
              repeat (first|refine z2 ?_|refine z1 ?_|refine z3 ?_|refine z4 ?_|refine z5 ?_|refine z8 ?_|refine z9 ?_)
              refine al_on hT rfl rfl rfl (by first | (rw [hdA]; rfl) | (rw [hdB]; rfl)) (pure_load_adr rfl rfl rfl rfl (refsC_at (j := a) (by omega) (by omega))) rfl rfl True.intro ?_
              repeat (first|refine z2 ?_|refine z1 ?_|refine z3 ?_|refine z4 ?_|refine z5 ?_|refine z8 ?_|refine z9 ?_)
              refine al_on hT rfl rfl rfl (by first | (rw [hdA]; rfl) | (rw [hdB]; rfl)) (pure_load_adr rfl rfl rfl (rowsO_at haA) (zsC_at (j := o + c) (by omega) hpad2)) rfl rfl True.intro ?_
              rw [hye]
              repeat (first|refine z2 ?_|refine z1 ?_|refine z3 ?_|refine z4 ?_|refine z5 ?_|refine z8 ?_|refine z9 ?_)
              refine zo (abs_ok A[a][c] hy) ?_
              repeat (first|refine z2 ?_|refine z1 ?_|refine z3 ?_|refine z4 ?_|refine z5 ?_|refine z8 ?_|refine z9 ?_)
              refine zo (hcmp) ?_
              repeat (first|refine z2 ?_|refine z1 ?_|refine z3 ?_|refine z4 ?_|refine z5 ?_|refine z8 ?_|refine z9 ?_)
              refine le_sub ⟨rfl, rfl, rfl, rfl, rfl, rfl, ?_, trivial⟩ rfl rfl
              refine pick_tft _ _ _ _ hdA hdB ?_
              rw [hcnd]
              by_cases hlt : (A[d + j][c]).natAbs < (A[a][c]).natAbs
              · have e1 : cmpZ ((A[d + j][c]).natAbs : Int) ((A[a][c]).natAbs : Int) = -1 := by unfold cmpZ; rw [if_pos (by omega)]
                rw [e1, decide_eq_true (show A[d + j][c] ≠ 0 ∧ (∀ b, pickAt A c d j = some b → (A[d + j][c]).natAbs < (ent A b c).natAbs) from ⟨hx0, fun b hb => by rw [hpk] at hb; cases hb; rw [ent_get haA (by omega)]; exact hlt⟩)]
                rfl
              · have e1 : ¬ cmpZ ((A[d + j][c]).natAbs : Int) ((A[a][c]).natAbs : Int) < 0 := by
                  unfold cmpZ
                  rw [if_neg (by omega)]
                  split <;> omega
                rw [decide_eq_false e1, decide_eq_false (show ¬ (A[d + j][c] ≠ 0 ∧ (∀ b, pickAt A c d j = some b → (A[d + j][c]).natAbs < (ent A b c).natAbs)) from fun e => by
                  have := e.2 a hpk
                  rw [ent_get haA (by omega)] at this
                  exact hlt this)]
        · have hnext : pickAt A c d (j + 1) = if cnd then some (d + j) else pickAt A c d j := by
            rw [pickAt]
            cases hpk : pickAt A c d j with
            | none =>
              simp only
              rw [ent_get hjA (by omega), hcnd]
              by_cases hx0 : A[d + j][c] = 0
              · simp [hx0]
              · rw [if_neg hx0, decide_eq_true (show A[d + j][c] ≠ 0 ∧ (∀ a, pickAt A c d j = some a → (A[d + j][c]).natAbs < (ent A a c).natAbs) from ⟨hx0, fun a ha => by rw [hpk] at ha; cases ha⟩)]; rfl
            | some a =>
              simp only
              rw [ent_get hjA (by omega), hcnd]
              by_cases hq : A[d + j][c] ≠ 0 ∧ (A[d + j][c]).natAbs < (ent A a c).natAbs
              · rw [if_pos hq, decide_eq_true (show A[d + j][c] ≠ 0 ∧ (∀ b, pickAt A c d j = some b → (A[d + j][c]).natAbs < (ent A b c).natAbs) from ⟨hq.1, fun b hb => by rw [hpk] at hb; cases hb; exact hq.2⟩)]; rfl
              · rw [if_neg hq, decide_eq_false (show ¬ (A[d + j][c] ≠ 0 ∧ (∀ b, pickAt A c d j = some b → (A[d + j][c]).natAbs < (ent A b c).natAbs)) from fun e => hq ⟨e.1, e.2 a hpk⟩)]; rfl
          refine awp_cond rfl (fun h => ?_) (fun h => ?_)
          · repeat (first|refine z2 ?_|refine z1 ?_|refine z3 ?_|refine z4 ?_|refine z5 ?_)
            refine ⟨⟨j + 1, by omega⟩, le_sub ⟨rfl, rfl, rfl, rfl, ?_, ?_, trivial⟩ rfl rfl, by show m - d - (j + 1) < m - d - j; omega⟩
            · rw [hnext, h]; rfl
            · show some (AV.v (.int .i64 (((d + j : Nat) : Int) + 1))) = some (AV.v (.int .i64 ((d + (j + 1) : Nat) : Int)))
              congr 3
          · repeat (first|refine z2 ?_|refine z1 ?_|refine z3 ?_|refine z4 ?_|refine z5 ?_)
            refine ⟨⟨j + 1, by omega⟩, le_sub ⟨rfl, rfl, rfl, rfl, ?_, ?_, trivial⟩ rfl rfl, by show m - d - (j + 1) < m - d - j; omega⟩
            · rw [hnext, h]; rfl
            · show some (AV.v (.int .i64 (((d + j : Nat) : Int) + 1))) = some (AV.v (.int .i64 ((d + (j + 1) : Nat) : Int)))
              congr 3
      · have hjm : j = m - d := by have := of_decide_eq_false h; omega
        subst hjm
        clear h
        have halm : A.length - d = m - d := by omega
        repeat (first|refine z2 ?_|refine z1 ?_|refine z3 ?_|refine z4 ?_|refine z5 ?_)
        refine awp_cond rfl (fun h => ?_) (fun h => ?_)
        · have h := of_decide_eq_true h
          have hpk : pickAt A c d (A.length - d) = none := by
            rw [halm]
            cases hp : pickAt A c d (m - d) with
            | none => rfl
            | some a => rw [hp] at h; have h5 : (a : Int) < 0 := h; omega
          obtain ⟨f, rfl⟩ : ∃ f', f = f' + 1 := ⟨f - 1, by omega⟩
          rw [colM, hpk] at aR
          simp only at aR
          rw [← aR] at hF hR
          simp only [Bool.false_eq_true, if_false] at hF
          have hAM : A = M := by
            rcases fuel0.2 with hz | ⟨i, g1, g2, g3⟩
            · rw [colM_none hz] at hR
              exact congrArg Prod.fst hR
            · have := (colM_bnd (n := n) (c := c) (d := d) hNd (fuelM M c) M he.rect (by omega) (.inl hB) ⟨i, g1, g2, g3⟩).1
              rw [← hR] at this
              cases this
          have hz : ∀ i, d ≤ i → ent A i c = 0 := fun i hi => by
            by_cases hl' : i < A.length
            · exact pick_none hpk i hi (by omega)
            · exact ent_out (by omega)
          repeat (first|refine z2 ?_|refine z1 ?_|refine z3 ?_|refine z4 ?_|refine z5 ?_)
          refine ⟨⟨((k, d, Nd), P, A), by show k ≤ n; omega, by have := ae.next hz; rwa [show c + 1 = n - k by omega] at this, al, hF, by rw [hAM]; exact hB, h4, by have := hG2.none (by rw [← hAM]; exact hz); rw [hAM]; rwa [show c + 1 = n - k by omega] at this⟩, le_sub ⟨rfl, rfl, rfl, ?_, trivial⟩ rfl rfl, by show k < k + 1; omega⟩
          show some (AV.v (.int .i64 ((c : Int) + 1))) = some (AV.v (.int .i64 ((n - k : Nat) : Int)))
          congr 3
          omega
        · have h := of_decide_eq_false h
          obtain ⟨a, hpk⟩ : ∃ a, pickAt A c d (m - d) = some a := by
            cases hp : pickAt A c d (m - d) with
            | none => rw [hp] at h; exact absurd (show (-1 : Int) < 0 by decide) h
            | some a => exact ⟨a, rfl⟩
          obtain ⟨a1, a2, a3, a4⟩ := pick_some hpk
          have haA : a < A.length := by omega
          have hdA' : d < A.length := by omega
          rw [hpk, show atZ (some a) = (a : Int) from rfl]
          repeat (first|refine z2 ?_|refine z1 ?_|refine z3 ?_|refine z4 ?_|refine z5 ?_)
          refine awp_region_draw [] hmix (by kernel_rfl) ?_
          repeat (first|refine z2 ?_|refine z1 ?_|refine z3 ?_|refine z4 ?_|refine z5 ?_)
          refine al_pure hT rfl (pure_load_adr rfl rfl rfl rfl (refsC_at (j := a) (by omega) (by omega))) rfl rfl True.intro ?_
          repeat (first|refine z2 ?_|refine z1 ?_|refine z3 ?_|refine z4 ?_|refine z5 ?_)
          refine al_pure hT rfl (pure_load_adr rfl rfl rfl rfl (refsC_at (j := d) (by omega) (by omega))) rfl rfl True.intro ?_
          repeat (first|refine z2 ?_|refine z1 ?_|refine z3 ?_|refine z4 ?_|refine z5 ?_)
          refine al_store hT rfl rfl rfl rfl rfl rfl rfl rfl rfl (by show (0 * 1 + (d : Int).toNat * 1) + 1 ≤ (refsC 3 m o n).length; rw [refsC_len]; omega) (by intro x hx; simp only [List.mem_singleton] at hx; subst hx; rfl) ?_
          repeat (first|refine z2 ?_|refine z1 ?_|refine z3 ?_|refine z4 ?_|refine z5 ?_)
          refine al_store hT rfl rfl rfl rfl rfl rfl rfl rfl rfl (by show (0 * 1 + (a : Int).toNat * 1) + 1 ≤ (setAll (refsC 3 m o n) _ _).length; simp only [setAll, List.length_set, refsC_len]; omega) (by intro x hx; simp only [List.mem_singleton] at hx; subst hx; rfl) ?_
          refine al_nil ?_
          obtain ⟨B, hBe⟩ : ∃ B, B = swapM A d a := ⟨_, rfl⟩
          have bl : B.length = m := by rw [hBe, swap_len]; exact al
          have br : Rect n B := by rw [hBe]; exact swap_rect ae.rect hdA' haA
          obtain ⟨sB1, sB2⟩ := aPh.sweep hNd ae.rect hdA' (by rw [halm]; exact hpk)
          rw [← hBe] at sB1 sB2
          obtain ⟨f, rfl⟩ : ∃ f', f = f' + 1 := ⟨f - 1, by omega⟩
          rw [colM, halm, hpk] at aR
          simp only at aR
          rw [← hBe] at aR
          refine awp_le (le_two (env' := [(0, .ref 2 0 1 0 m), (1, .v (.int .i64 n)), (5, .v (.int .i64 d)), (6, .v (.int .i64 c))]) (ga := 2) (gb := 3) (ga' := 2) (gb' := 3) (nx' := 4) (cells' := refsC 3 m o n) (rows' := rowsO o B) (sw d a) (by omega) (by omega) (by omega) (by show β0.length ≤ 2 ∧ β0.length ≤ 3; omega) rfl ?_ ?_ ?_ ?_) ?_
          · show WkL _ _ _ (setAll (setAll (refsC 3 m o n) (0 * 1 + (d : Int).toNat * 1) [AV.ref 3 a 1 o n]) (0 * 1 + (a : Int).toNat * 1) [AV.ref 3 d 1 o n]) _
            rw [show 0 * 1 + (d : Int).toNat * 1 = d by omega, show 0 * 1 + (a : Int).toNat * 1 = a by omega, cells_swap]
            exact refs_map (m := m) (by omega) (by omega) _
          · intro i r hi
            rw [hBe] at hi
            exact rowsO_swap hdA' haA hi
          · intro i j hi hj h
            have h2 := congrArg (sw d a) h
            rwa [sw_sw, sw_sw] at h2
          · exact ⟨⟨_, rfl, .ref rfl (by omega)⟩, ⟨_, rfl, .refl trivial⟩, ⟨_, rfl, .refl trivial⟩, ⟨_, rfl, .refl trivial⟩, trivial⟩
          have pv : ent B d c = ent A a c := by
            rw [hBe, ent_swap hdA' haA]
            by_cases e : d = a
            · rw [if_pos e, e]
            · rw [if_neg e, if_pos rfl]
          repeat (first|refine z2 ?_|refine z1 ?_|refine z3 ?_|refine z4 ?_|refine z5 ?_)
          refine awp_loop (fun x : { x : Nat // x ≤ m - d - 1 } => ⟨[(0, .ref 2 0 1 0 m), (1, .v (.int .i64 n)), (5, .v (.int .i64 d)), (6, .v (.int .i64 c)), (9, .v (.bool (restB B c d x.1))), (10, .v (.int .i64 ((d + 1 + x.1 : Nat) : Int)))], [(2, [⟨1, refsC 3 m o n⟩]), (3, rowsO o (sweepM B c d x.1))], 4⟩) (fun x => m - d - 1 - x.1) ⟨0, Nat.zero_le _⟩ (le_sub ⟨rfl, rfl, rfl, rfl, rfl, rfl, trivial⟩ rfl rfl) ?_
          rintro ⟨j, hj⟩
          simp only at hj ⊢
          obtain ⟨S, hS⟩ : ∃ S, S = sweepM B c d j := ⟨_, rfl⟩
          have sl : S.length = m := by rw [hS, sweep_len]; exact bl
          have sr : Rect n S := by rw [hS]; exact sweep_rect br c d j (by omega)
          have sB : Bnd S G := by rw [hS]; exact (sB1 j (by omega)).mono (by have := hUp2.1; omega)
          have srow : ∀ i (hi : i < S.length), S[i].length = n := fun i hi => sr _ (List.getElem_mem hi)
          have sent : ∀ i, (i ≤ d ∨ d + j < i) → ∀ l, ent S i l = ent B i l := fun i hi l => by unfold ent; rw [hS, sweep_get _ _ _ _ _ hi]
          have sok : ∀ i (hi : i < S.length) l (hl : l < S[i].length), (S[i][l]).natAbs ≤ G := fun i hi l hl => by rw [← ent_get hi hl]; exact sB i l
          rw [← hS]
          have hdS : d < S.length := by omega
          have hld := srow d hdS
          have hpne : S[d][c] ≠ 0 := by
            rw [← ent_get hdS (by omega), sent d (.inl (Nat.le_refl _)), pv]; exact a3
          repeat (first|refine z2 ?_|refine z1 ?_|refine z3 ?_|refine z4 ?_|refine z5 ?_)
          refine awp_cond rfl (fun h => ?_) (fun h => ?_)
          ·
            have hjm : d + 1 + j < m := by have := of_decide_eq_true h; omega
            clear h
            have hiS : d + 1 + j < S.length := by omega
            have hli := srow (d + 1 + j) hiS
            have hpi : o + c < (padZ o S[d + 1 + j]).length := by rw [padZ_len]; omega
            have hpd : o + c < (padZ o S[d]).length := by rw [padZ_len]; omega
            have ei : (padZ o S[d + 1 + j])[o + c] = S[d + 1 + j][c] := padZ_at (by omega)
            have ed : (padZ o S[d])[o + c] = S[d][c] := padZ_at (by omega)
            have hx := sok (d + 1 + j) hiS c (by omega)
            have hp := sok d hdS c (by omega)
            have hdiv := zdivmod_ok S[d + 1 + j][c] S[d][c] (okG hx) (okG hp) hpne
            have hq := Nat.le_trans (fdiv_le S[d + 1 + j][c] S[d][c]) hx
            have hless := less_ok o n (Int.fdiv S[d + 1 + j][c] S[d][c]) S[d + 1 + j] S[d] hli hld hn (okG hq) (fun l h1 h2 => by
              have b1 := sok (d + 1 + j) hiS l h1
              have b2 := sok d hdS l h2
              have b3 := Nat.mul_le_mul hq b2
              refine ⟨okG b2, okN_mono (by omega) hG, okN_mono ?_ hG⟩
              rw [Int.natAbs_mul]
              omega)
            have hSn : sweepM B c d (j + 1) = S.set (d + 1 + j) (lessR (Int.fdiv S[d + 1 + j][c] S[d][c]) S[d] S[d + 1 + j]) := by
              rw [sweepM, ← hS]
              have g1 : B.getD d [] = S[d] := by rw [← sweep_get B c d j d (.inl (Nat.le_refl _)), ← hS, List.getD_eq_getElem?_getD, List.getElem?_eq_getElem hdS]; rfl
              have g2 : B.getD (d + 1 + j) [] = S[d + 1 + j] := by rw [← sweep_get B c d j (d + 1 + j) (.inr (by omega)), ← hS, List.getD_eq_getElem?_getD, List.getElem?_eq_getElem hiS]; rfl
              rw [g1, g2, ← sent (d + 1 + j) (.inr (by omega)), ← sent d (.inl (Nat.le_refl _)), ent_get hiS (by omega), ent_get hdS (by omega)]
            have hRn : restB B c d (j + 1) = (restB B c d j || decide (Int.fmod S[d + 1 + j][c] S[d][c] ≠ 0)) := by
              rw [restB, ← sent (d + 1 + j) (.inr (by omega)), ← sent d (.inl (Nat.le_refl _)), ent_get hiS (by omega), ent_get hdS (by omega)]
            repeat (first|refine z2 ?_|refine z1 ?_|refine z3 ?_|refine z4 ?_|refine z5 ?_)
            refine awp_region_draw [] hmix (by kernel_rfl) ?_
            repeat (first|refine z2 ?_|refine z1 ?_|refine z3 ?_|refine z4 ?_|refine z5 ?_)
            refine al_pure hT rfl (pure_load_adr rfl rfl rfl rfl (refsC_at (j := d + 1 + j) (by omega) hjm)) rfl rfl True.intro ?_
            repeat (first|refine z2 ?_|refine z1 ?_|refine z3 ?_|refine z4 ?_|refine z5 ?_)
            refine al_pure hT rfl (pure_load_adr rfl rfl rfl (rowsO_at hiS) (zsC_at (j := o + c) (by omega) hpi)) rfl rfl True.intro ?_
            rw [ei]
            repeat (first|refine z2 ?_|refine z1 ?_|refine z3 ?_|refine z4 ?_|refine z5 ?_)
            refine al_pure hT rfl (pure_load_adr rfl rfl rfl rfl (refsC_at (j := d) (by omega) hd)) rfl rfl True.intro ?_
            repeat (first|refine z2 ?_|refine z1 ?_|refine z3 ?_|refine z4 ?_|refine z5 ?_)
            refine al_pure hT rfl (pure_load_adr rfl rfl rfl (rowsO_at hdS) (zsC_at (j := o + c) (by omega) hpd)) rfl rfl True.intro ?_
            rw [ed]
            repeat (first|refine z2 ?_|refine z1 ?_|refine z3 ?_|refine z4 ?_|refine z5 ?_)
            refine zc (hdiv) ?_
            repeat (first|refine z2 ?_|refine z1 ?_|refine z3 ?_|refine z4 ?_|refine z5 ?_)
            refine awp_region_draw [9] hmix (by kernel_rfl) ?_
            repeat (first|refine z2 ?_|refine z1 ?_|refine z3 ?_|refine z4 ?_|refine z5 ?_)
            refine al_pure hT rfl (pure_load_adr rfl rfl rfl rfl (refsC_at (j := d + 1 + j) (by omega) hjm)) rfl rfl True.intro ?_
            repeat (first|refine z2 ?_|refine z1 ?_|refine z3 ?_|refine z4 ?_|refine z5 ?_)
            refine al_pure hT rfl (pure_load_adr rfl rfl rfl rfl (refsC_at (j := d) (by omega) hd)) rfl rfl True.intro ?_
            repeat (first|refine z2 ?_|refine z1 ?_|refine z3 ?_|refine z4 ?_|refine z5 ?_)
            have hset := rowsO_set (o := o) (r := lessR (Int.fdiv S[d + 1 + j][c] S[d][c]) S[d] S[d + 1 + j]) hiS
            rw [← hSn] at hset
            refine al_callw (rhoR (d + 1 + j)) [(2, [⟨1, refsC 3 m o n⟩]), (3, rowsO o (sweepM B c d (j + 1)))] 4 (.tup []) hless rfl rfl rfl rfl rfl (.cons (.ref rfl Nat.zero_lt_one) (.cons (.refl trivial) (.cons (read_row rfl (rowsO_at hdS) (by omega) hld) .nil))) (hand_row rfl rfl (rowsO_at hiS) (nrl_zsC _)) rfl rfl rfl (back_row rfl hset.1 hset.2 (hfl_zsC _)) (.same trivial) ?_
            cases hrb : restB B c d j with
            | true =>
              rw [hrb] at hRn
              repeat (first|refine z2 ?_|refine z1 ?_|refine z3 ?_|refine z4 ?_|refine z5 ?_|refine z6 ?_|refine z7 ?_)
              refine al_pick rfl rfl rfl (v := true) (r := .v (.bool true)) rfl rfl rfl ?_
              repeat (first|refine z2 ?_|refine z1 ?_|refine z3 ?_|refine z4 ?_|refine z5 ?_)
              refine ⟨⟨j + 1, by omega⟩, le_sub ⟨rfl, rfl, rfl, rfl, ?_, ?_, trivial⟩ rfl rfl, by show m - d - 1 - (j + 1) < m - d - 1 - j; omega⟩
              · rw [hRn]; rfl
              · show some (AV.v (.int .i64 (((d + 1 + j : Nat) : Int) + 1))) = some (AV.v (.int .i64 ((d + 1 + (j + 1) : Nat) : Int)))
                congr 3
            | false =>
              rw [hrb, Bool.false_or] at hRn
              repeat (first|refine z2 ?_|refine z1 ?_|refine z3 ?_|refine z4 ?_|refine z5 ?_|refine z6 ?_|refine z7 ?_)
              refine ⟨⟨j + 1, by omega⟩, le_sub ⟨rfl, rfl, rfl, rfl, ?_, ?_, trivial⟩ rfl rfl, by show m - d - 1 - (j + 1) < m - d - 1 - j; omega⟩
              · show some (AV.v (.bool (!((zS (Int.fmod S[d + 1 + j][c] S[d][c])).toList == (⟨#[48]⟩ : ByteArray).toList)))) = _
                rw [z_beq0, hRn]
                by_cases h0 : Int.fmod S[d + 1 + j][c] S[d][c] = 0 <;> simp [h0]
              · show some (AV.v (.int .i64 (((d + 1 + j : Nat) : Int) + 1))) = some (AV.v (.int .i64 ((d + 1 + (j + 1) : Nat) : Int)))
                congr 3
          · have hjm : j = m - d - 1 := by have := of_decide_eq_false h; omega
            clear h
            subst hjm
            have s1 := ae.swap hdA' a1 haA
            rw [← hBe] at s1
            have s2 := s1.sweep (k := m - d - 1) (by omega)
            rw [← hS] at s2 aR
            have e2 := ent_sweep br c d (m - d - 1) (by omega)
            rw [← hS] at e2
            repeat (first|refine z2 ?_|refine z1 ?_|refine z3 ?_|refine z4 ?_|refine z5 ?_)
            refine awp_cond rfl (fun hrest => ?_) (fun hrest => ?_)
            · rw [if_pos hrest] at aR
              obtain ⟨i, i1, i2, i3⟩ := rest_true hrest
              have hw : ent S i c = Int.fmod (ent B i c) (ent B d c) := by rw [e2, if_pos ⟨i1, i2⟩, fmod_fdiv]
              have hfm := fmod_abs (ent B i c) (b := ent B d c) (by rw [pv]; exact a3)
              have hlt : (ent A a c).natAbs < f + 1 := by
                rcases afu with hf | ⟨q, q1, q2, q3⟩
                · exact absurd (hf a a1) a3
                · by_cases hql : q < A.length
                  · have := a4 q q1 (by omega) q2; omega
                  · exact absurd (ent_out (by omega)) q2
              rw [pv] at hfm
              have hph := sB2 (by rw [halm]; exact hrest)
              rw [halm, ← hS] at hph
              repeat (first|refine z2 ?_|refine z1 ?_|refine z3 ?_|refine z4 ?_|refine z5 ?_)
              exact ⟨⟨(f, S), s2, sl, hph, aR, by show 0 < f; omega, .inr ⟨i, by omega, by rw [hw]; exact i3, by rw [hw, pv]; show _ < f; omega⟩⟩, le_sub ⟨rfl, rfl, rfl, rfl, trivial⟩ rfl rfl, by show f < f + 1; omega⟩
            · have hrest : restB B c d (m - d - 1) = false := hrest
              rw [if_neg (by rw [hrest]; simp)] at aR
              have hz : ∀ i, d < i → ent S i c = 0 := fun i hi => by
                by_cases hl' : i < m
                · rw [e2, if_pos ⟨hi, by omega⟩, fmod_fdiv]; exact rest_false hrest i hi (by omega)
                · exact ent_out (by omega)
              obtain ⟨T, hT2⟩ : ∃ T, T = posM S c d := ⟨_, rfl⟩
              have tl : T.length = m := by rw [hT2, pos_len]; exact sl
              have tr : Rect n T := by rw [hT2]; exact pos_rect sr c d hdS
              have tfin : ∀ j, j ≤ d → Bnd (aboveM T c d j) G := fun j hj => by
                rw [hT2]
                exact (fin_bnd (sB1 (m - d - 1) (by omega)|> (by rw [hS]; exact ·)) hNd sr hdS hj).mono (by unfold up at hUp; exact hUp)
              have hRT : R = (aboveM T c d d, true) := by rw [← aR, hT2]; rfl
              have hpd : o + c < (padZ o S[d]).length := by rw [padZ_len]; omega
              have ed : (padZ o S[d])[o + c] = S[d][c] := padZ_at (by omega)
              have tpe : ent T d c ≠ 0 := by
                rw [hT2, ent_pos c d hdS]
                rw [← ent_get hdS (by omega)] at hpne
                split
                · omega
                · exact hpne
              repeat (first|refine z2 ?_|refine z1 ?_|refine z3 ?_|refine z4 ?_|refine z5 ?_)
              refine al_pure hT rfl (pure_load_adr rfl rfl rfl rfl (refsC_at (j := d) (by omega) hd)) rfl rfl True.intro ?_
              repeat (first|refine z2 ?_|refine z1 ?_|refine z3 ?_|refine z4 ?_|refine z5 ?_)
              refine al_pure hT rfl (pure_load_adr rfl rfl rfl (rowsO_at hdS) (zsC_at (j := o + c) (by omega) hpd)) rfl rfl True.intro ?_
              rw [ed]
              repeat (first|refine z2 ?_|refine z1 ?_|refine z3 ?_|refine z4 ?_|refine z5 ?_)
              refine zc (sign_ok S[d][c] (okG (sok d hdS c (by omega)))) ?_
              repeat (first|refine z2 ?_|refine z1 ?_|refine z3 ?_|refine z4 ?_|refine z5 ?_)
              refine awp_at ⟨[(0, .ref 2 0 1 0 m), (1, .v (.int .i64 n)), (5, .v (.int .i64 d)), (6, .v (.int .i64 c))], [(2, [⟨1, refsC 3 m o n⟩]), (3, rowsO o T)], 4⟩ ?_ ?_
              · refine awp_cond rfl (fun hs => ?_) (fun hs => ?_)
                · have hs := of_decide_eq_true hs
                  have hneg : ent S d c < 0 := by
                    rw [ent_get hdS (by omega)]
                    rcases Int.lt_trichotomy S[d][c] 0 with h | h | h
                    · exact h
                    · exact absurd h hpne
                    · rw [Int.sign_eq_one_of_pos h] at hs; omega
                  have hTn : T = S.set d (negR S[d]) := by
                    rw [hT2]; unfold posM
                    rw [if_pos hneg, List.getD_eq_getElem?_getD, List.getElem?_eq_getElem hdS]; rfl
                  have hset := rowsO_set (o := o) (r := negR S[d]) hdS
                  rw [← hTn] at hset
                  have hng := negate_ok o n S[d] hld hn (fun z hz => by
                    obtain ⟨l, hl', rfl⟩ := List.getElem_of_mem hz
                    exact okG (sok d hdS l hl'))
                  repeat (first|refine z2 ?_|refine z1 ?_|refine z3 ?_|refine z4 ?_|refine z5 ?_)
                  refine al_pure hT rfl (pure_load_adr rfl rfl rfl rfl (refsC_at (j := d) (by omega) hd)) rfl rfl True.intro ?_
                  repeat (first|refine z2 ?_|refine z1 ?_|refine z3 ?_|refine z4 ?_|refine z5 ?_)
                  refine al_callw (rhoR d) [(2, [⟨1, refsC 3 m o n⟩]), (3, rowsO o T)] 4 (.tup []) hng rfl rfl rfl rfl rfl (.cons (.ref rfl Nat.zero_lt_one) .nil) (hand_row rfl rfl (rowsO_at hdS) (nrl_zsC _)) rfl rfl rfl (back_row rfl hset.1 hset.2 (hfl_zsC _)) (.same trivial) ?_
                  repeat (first|refine z2 ?_|refine z1 ?_|refine z3 ?_|refine z4 ?_|refine z5 ?_)
                  exact le_sub ⟨rfl, rfl, rfl, rfl, trivial⟩ rfl rfl
                · have hs := of_decide_eq_false hs
                  have hneg : ¬ ent S d c < 0 := by
                    rw [ent_get hdS (by omega)]
                    intro h
                    rw [Int.sign_eq_neg_one_of_neg h] at hs
                    omega
                  have hTn : T = S := by rw [hT2]; unfold posM; rw [if_neg hneg]
                  rw [hTn]
                  repeat (first|refine z2 ?_|refine z1 ?_|refine z3 ?_|refine z4 ?_|refine z5 ?_)
                  exact le_sub ⟨rfl, rfl, rfl, rfl, trivial⟩ rfl rfl
              · clear ed hpd
                repeat (first|refine z2 ?_|refine z1 ?_|refine z3 ?_|refine z4 ?_|refine z5 ?_)
                refine awp_loop (fun x : { x : Nat // x ≤ d } => ⟨[(0, .ref 2 0 1 0 m), (1, .v (.int .i64 n)), (5, .v (.int .i64 d)), (6, .v (.int .i64 c)), (142, .v (.int .i64 d)), (143, .v (.int .i64 x.1))], [(2, [⟨1, refsC 3 m o n⟩]), (3, rowsO o (aboveM T c d x.1))], 4⟩) (fun x => d - x.1) ⟨0, Nat.zero_le _⟩ (le_sub ⟨rfl, rfl, rfl, rfl, rfl, rfl, trivial⟩ rfl rfl) ?_
                rintro ⟨j, hj2⟩
                simp only at hj2 ⊢
                repeat (first|refine z2 ?_|refine z1 ?_|refine z3 ?_|refine z4 ?_|refine z5 ?_)
                refine awp_cond rfl (fun h => ?_) (fun h => ?_)
                · have hjd : j < d := by have := of_decide_eq_true h; omega
                  clear h
                  obtain ⟨U, hU⟩ : ∃ U, U = aboveM T c d j := ⟨_, rfl⟩
                  have ul : U.length = m := by rw [hU, above_len]; exact tl
                  have ur : Rect n U := by rw [hU]; exact above_rect tr c d (by omega) j hj2
                  have uB : Bnd U G := by rw [hU]; exact tfin j hj2
                  have urow : ∀ i (hi : i < U.length), U[i].length = n := fun i hi => ur _ (List.getElem_mem hi)
                  have uent : ∀ i, j ≤ i → ∀ l, ent U i l = ent T i l := fun i hi l => by unfold ent; rw [hU, above_get _ _ _ _ _ hi]
                  have uok : ∀ i (hi : i < U.length) l (hl : l < U[i].length), (U[i][l]).natAbs ≤ G := fun i hi l hl => by rw [← ent_get hi hl]; exact uB i l
                  rw [← hU]
                  have hdU : d < U.length := by omega
                  have hjU : j < U.length := by omega
                  have hld := urow d hdU
                  have hli := urow j hjU
                  have hpne : U[d][c] ≠ 0 := by rw [← ent_get hdU (by omega), uent d hj2]; exact tpe
                  have hpi : o + c < (padZ o U[j]).length := by rw [padZ_len]; omega
                  have hpd : o + c < (padZ o U[d]).length := by rw [padZ_len]; omega
                  have ei : (padZ o U[j])[o + c] = U[j][c] := padZ_at (by omega)
                  have ed : (padZ o U[d])[o + c] = U[d][c] := padZ_at (by omega)
                  have hx := uok j hjU c (by omega)
                  have hp := uok d hdU c (by omega)
                  have hdiv := zdivmod_ok U[j][c] U[d][c] (okG hx) (okG hp) hpne
                  have hq := Nat.le_trans (fdiv_le U[j][c] U[d][c]) hx
                  have hless := less_ok o n (Int.fdiv U[j][c] U[d][c]) U[j] U[d] hli hld hn (okG hq) (fun l h1 h2 => by
                    have b1 := uok j hjU l h1
                    have b2 := uok d hdU l h2
                    have b3 := Nat.mul_le_mul hq b2
                    refine ⟨okG b2, okN_mono (by omega) hG, okN_mono ?_ hG⟩
                    rw [Int.natAbs_mul]
                    omega)
                  have hUn : aboveM T c d (j + 1) = U.set j (lessR (Int.fdiv U[j][c] U[d][c]) U[d] U[j]) := by
                    rw [aboveM, ← hU]
                    have g1 : T.getD d [] = U[d] := by rw [← above_get T c d j d hj2, ← hU, List.getD_eq_getElem?_getD, List.getElem?_eq_getElem hdU]; rfl
                    have g2 : T.getD j [] = U[j] := by rw [← above_get T c d j j (Nat.le_refl _), ← hU, List.getD_eq_getElem?_getD, List.getElem?_eq_getElem hjU]; rfl
                    rw [g1, g2, ← uent j (Nat.le_refl _), ← uent d hj2, ent_get hjU (by omega), ent_get hdU (by omega)]
                  have hset := rowsO_set (o := o) (r := lessR (Int.fdiv U[j][c] U[d][c]) U[d] U[j]) hjU
                  rw [← hUn] at hset
                  repeat (first|refine z2 ?_|refine z1 ?_|refine z3 ?_|refine z4 ?_|refine z5 ?_)
                  refine awp_region_draw [] hmix (by kernel_rfl) ?_
                  repeat (first|refine z2 ?_|refine z1 ?_|refine z3 ?_|refine z4 ?_|refine z5 ?_)
                  refine al_pure hT rfl (pure_load_adr rfl rfl rfl rfl (refsC_at (j := j) (by omega) (by omega))) rfl rfl True.intro ?_
                  repeat (first|refine z2 ?_|refine z1 ?_|refine z3 ?_|refine z4 ?_|refine z5 ?_)
                  refine al_pure hT rfl (pure_load_adr rfl rfl rfl (rowsO_at hjU) (zsC_at (j := o + c) (by omega) hpi)) rfl rfl True.intro ?_
                  rw [ei]
                  repeat (first|refine z2 ?_|refine z1 ?_|refine z3 ?_|refine z4 ?_|refine z5 ?_)
                  refine al_pure hT rfl (pure_load_adr rfl rfl rfl rfl (refsC_at (j := d) (by omega) hd)) rfl rfl True.intro ?_
                  repeat (first|refine z2 ?_|refine z1 ?_|refine z3 ?_|refine z4 ?_|refine z5 ?_)
                  refine al_pure hT rfl (pure_load_adr rfl rfl rfl (rowsO_at hdU) (zsC_at (j := o + c) (by omega) hpd)) rfl rfl True.intro ?_
                  rw [ed]
                  repeat (first|refine z2 ?_|refine z1 ?_|refine z3 ?_|refine z4 ?_|refine z5 ?_)
                  refine zc (hdiv) ?_
                  repeat (first|refine z2 ?_|refine z1 ?_|refine z3 ?_|refine z4 ?_|refine z5 ?_)
                  refine awp_region_draw [9] hmix (by kernel_rfl) ?_
                  repeat (first|refine z2 ?_|refine z1 ?_|refine z3 ?_|refine z4 ?_|refine z5 ?_)
                  refine al_pure hT rfl (pure_load_adr rfl rfl rfl rfl (refsC_at (j := j) (by omega) (by omega))) rfl rfl True.intro ?_
                  repeat (first|refine z2 ?_|refine z1 ?_|refine z3 ?_|refine z4 ?_|refine z5 ?_)
                  refine al_pure hT rfl (pure_load_adr rfl rfl rfl rfl (refsC_at (j := d) (by omega) hd)) rfl rfl True.intro ?_
                  repeat (first|refine z2 ?_|refine z1 ?_|refine z3 ?_|refine z4 ?_|refine z5 ?_)
                  refine al_callw (rhoR j) [(2, [⟨1, refsC 3 m o n⟩]), (3, rowsO o (aboveM T c d (j + 1)))] 4 (.tup []) hless rfl rfl rfl rfl rfl (.cons (.ref rfl Nat.zero_lt_one) (.cons (.refl trivial) (.cons (read_row rfl (rowsO_at hdU) (by omega) hld) .nil))) (hand_row rfl rfl (rowsO_at hjU) (nrl_zsC _)) rfl rfl rfl (back_row rfl hset.1 hset.2 (hfl_zsC _)) (.same trivial) ?_
                  repeat (first|refine z2 ?_|refine z1 ?_|refine z3 ?_|refine z4 ?_|refine z5 ?_)
                  refine ⟨⟨j + 1, hjd⟩, le_sub ⟨rfl, rfl, rfl, rfl, rfl, ?_, trivial⟩ rfl rfl, by show d - (j + 1) < d - j; omega⟩
                  rfl
                · have hjd : j = d := by have := of_decide_eq_false h; omega
                  clear h
                  subst hjd
                  obtain ⟨w, w1, w2, w3⟩ : ∃ i, j ≤ i ∧ ent M i c ≠ 0 ∧ (ent M i c).natAbs < fuelM M c := by
                    rcases fuel0.2 with hzz | hw
                    · rw [colM_none hzz, hRT] at hR
                      cases congrArg Prod.snd hR
                    · exact hw
                  obtain ⟨c1, _, _, c4⟩ := colM_ok (n := n) (c := c) (d := j) (P := P) (fuelM M c) M he (by omega) fuel0.1 fuel0.2
                  obtain ⟨N', cN, cB, cG⟩ := hG2.step h4 he.rect hB (by omega) ⟨w, w1, w2, w3⟩ (by rw [c1])
                  rw [← hR, hRT] at c1 c4 cB cG
                  rw [hRT] at hF
                  simp only [if_true] at hF
                  simp only at c1 cB cG
                  have ce := c4 rfl
                  repeat (first|refine z2 ?_|refine z1 ?_|refine z3 ?_|refine z4 ?_|refine z5 ?_)
                  refine ⟨⟨((k, j + 1, N'), P ++ [c], aboveM T c j j), by show k ≤ n; omega, by rwa [show c + 1 = n - k by omega] at ce, by show (aboveM T c j j).length = m; rw [c1]; exact hl, hF, cB, cN, by rwa [show c + 1 = n - k by omega] at cG⟩, le_sub ⟨rfl, rfl, ?_, ?_, trivial⟩ rfl rfl, by show k < k + 1; omega⟩
                  · rfl
                  · show some (AV.v (.int .i64 ((c : Int) + 1))) = some (AV.v (.int .i64 ((n - k : Nat) : Int)))
                    congr 3
                    omega
  · have h : ¬ (0 < k ∧ d < m) := of_decide_eq_false h
    have hFd : formM n M0 = M.take d := by
      rw [← hF]
      cases k with
      | zero => rfl
      | succ k => rw [formL, if_neg (by omega)]
    have hlen : (formM n M0).length = d := by rw [hFd, List.length_take]; omega
    rw [hlen, hFd]
    repeat (first|refine z2 ?_|refine z1 ?_|refine z3 ?_|refine z4 ?_|refine z5 ?_)
    have hval : AV.ref 2 0 1 (0 + (0 : Int).toNat) ((d : Int) - 0).toNat = AV.ref 2 0 1 0 d := by
      rw [show ((d : Int) - 0).toNat = d by omega]; rfl
    refine awp_ret ⟨.inl rfl, ⟨[(4, .ref 2 0 1 0 d)], [(2, [⟨1, refsC 3 d o n⟩]), (3, rowsO o (M.take d))], 4⟩, (le_trunc (g := 2) (t := 0) (k := d) rfl).trans (le_two (cells := (refsC 3 m o n).take d) (ga := 2) (gb := 3) (ga' := 2) (gb' := 3) (nx' := 4) (fun i => i) (by omega) (by omega) (by omega) (by show β0.length ≤ 2 ∧ β0.length ≤ 3; omega) rfl ?_ ?_ (fun i j _ _ h => h) ?_), rfl, rfl, rfl⟩
    · have : (refsC 3 m o n).take d = refsC 3 d o n := by
        unfold refsC
        rw [← List.map_take, List.take_range, Nat.min_eq_left hdm]
      rw [this]
      exact refs_map (m := m) (by omega) (by omega) _
    · intro i r hi
      have hid : i < d := by
        have := (List.getElem?_eq_some_iff.1 hi).1
        rw [rowsO_len, List.length_take] at this
        omega
      have hr : (rowsO o M)[i]? = some r := by
        unfold rowsO at hi ⊢
        rw [List.getElem?_map, List.getElem?_take_of_lt hid] at hi
        rw [List.getElem?_map]
        exact hi
      refine ⟨hr, ?_⟩
      unfold rowsO at hr
      rw [List.getElem?_map] at hr
      cases hx : M[i]? with
      | none => rw [hx] at hr; cases hr
      | some x => rw [hx] at hr; cases hr; exact nrl_zsC _
    · exact ⟨⟨_, by show some (AV.ref 2 0 1 (0 + (0 : Int).toNat) ((d : Int) - 0).toNat) = _; rw [hval], .ref rfl (by omega)⟩, trivial⟩
end Go.Proofs.YtlbhgejbfhhipaaGreatDoor

/- Walks: matrices built row by row, handed over and handed back. -/
namespace Go.Proofs.YtlbhgejbfhhipaaGreatDoor
open Go Go.Am Go.Lib Go.Sp Z1 Z2 Z3 Z4 Z5 Z6
theorem row_cons {e : List (Nat × AV)} {k nx g t : Nat} {rs : List Row} {objs : List (Nat × List Row)} {r : Row} (h : (⟨e, (k, rs) :: objs, nx⟩ : AS).row g t = some r) : (g = k ∧ rs[t]? = some r) ∨ (g ≠ k ∧ (Am.look objs g).bind (·[t]?) = some r) := by
  unfold AS.row at h
  simp only [Am.look] at h
  cases e1 : Nat.beq k g with
  | true =>
    have := Nat.eq_of_beq_eq_true e1
    rw [e1] at h
    exact .inl ⟨this.symm, h⟩
  | false =>
    rw [e1] at h
    exact .inr ⟨fun e => by rw [e] at e1; simp at e1, h⟩
/-- A call that hands back one fresh row and turns none. -/
theorem back_add {st : AS} {e : List (Nat × AV)} {objs : List (Nat × List Row)} {k : Nat} {c : List AV} (ho : st.objs = objs) (hn : st.nx = k) (hc : hfl c) :
    Back st (fun _ _ => none) ⟨[], [], 0⟩ ⟨[], [(0, [⟨1, c⟩])], 1⟩ ⟨e, (k, [⟨1, c⟩]) :: objs, k + 1⟩ := by
  intro g t r hr
  rcases row_cons hr with ⟨rfl, hq⟩ | ⟨_, hq⟩
  · cases t with
    | zero =>
      simp only [List.getElem?_cons_zero, Option.some.injEq] at hq
      subst hq
      refine .inl ⟨0, 0, ⟨1, c⟩, rfl, ?_, Nat.lt_succ_self _, rfl, RnL.refl hc⟩
      rw [hn]; rfl
    | succ t => simp at hq
  · refine .inr ⟨by unfold AS.row; rw [ho]; exact hq, fun g' t' r' _ h => by cases h⟩
def rhoP (gO gR j : Nat) : Rho := fun g t => if g = 0 then some (gO, t) else if g = 1 then (if t < j then some (1, t) else some (gR, 0)) else none
theorem refs_push {st : AS} {gO gR j m o n nx' : Nat} (hm : m ≤ j) (hx : 1 < nx') : ∀ (l : List Nat), (∀ i ∈ l, i < m) → WkL st (rhoP gO gR j) nx' (l.map fun i => AV.ref 1 i 1 o n) (l.map fun i => AV.ref 1 i 1 o n)
  | [], _ => .nil
  | i :: l, h => .cons (.ref (by unfold rhoP; rw [if_neg (by omega), if_pos rfl, if_pos (by have := h i (by simp); omega)]) hx) (refs_push hm hx l (fun k hk => h k (by simp [hk])))
theorem refsC_succ (g j o n : Nat) : refsC g (j + 1) o n = refsC g j o n ++ [AV.ref g j 1 o n] := by
  unfold refsC
  rw [List.range_succ, List.map_append]
  rfl
/-- A row is appended to a matrix. -/
theorem le_push {κ : Cx} {st : AS} {env' : List (Nat × AV)} {gO gR j o n : Nat} {r0 : Row} {rows : List Row} (hj : rows.length = j) (h1 : gO ≠ 1) (h2 : gR ≠ 1) (h3 : gO ≠ gR) (hb : κ.β0 = [])
    (hO : st.row gO 0 = some ⟨1, refsC 1 j o n ++ ([AV.ref gR 0 1 o n] ++ [])⟩) (hR : st.row gR 0 = some r0) (hr : ∀ i, i < j → st.row 1 i = rows[i]?) (hn : ∀ (i : Nat) (r : Row), rows[i]? = some r → nrl r.cells) (hn0 : nrl r0.cells)
    (henv : envLe st (rhoP gO gR j) 2 env') : Le κ st ⟨env', [(0, [⟨1, refsC 1 (j + 1) o n⟩]), (1, rows ++ [r0])], 2⟩ := by
  have hrow : ∀ g t r, (⟨env', [(0, [⟨1, refsC 1 (j + 1) o n⟩]), (1, rows ++ [r0])], 2⟩ : AS).row g t = some r → (g = 0 ∧ t = 0 ∧ r = ⟨1, refsC 1 (j + 1) o n⟩) ∨ (g = 1 ∧ t < j ∧ rows[t]? = some r) ∨ (g = 1 ∧ t = j ∧ r = r0) := fun g t r h => by
    rcases row_cons h with ⟨rfl, hq⟩ | ⟨_, hq⟩
    · cases t with
      | zero => simp at hq; exact .inl ⟨rfl, rfl, hq.symm⟩
      | succ t => simp at hq
    · simp only [Am.look] at hq
      cases e2 : Nat.beq 1 g with
      | false => rw [e2] at hq; cases hq
      | true =>
        have := Nat.eq_of_beq_eq_true e2
        subst this
        simp only [Nat.beq_refl, cond_true, Option.bind_some] at hq
        rcases Nat.lt_trichotomy t j with hlt | heq | hgt
        · rw [List.getElem?_append_left (by omega)] at hq
          exact .inr (.inl ⟨rfl, hlt, hq⟩)
        · rw [List.getElem?_append_right (by omega), heq, hj, Nat.sub_self] at hq
          simp at hq
          exact .inr (.inr ⟨rfl, heq, hq.symm⟩)
        · rw [List.getElem?_eq_none (by simp; omega)] at hq
          cases hq
  refine le_mk (st2 := ⟨env', [(0, [⟨1, refsC 1 (j + 1) o n⟩]), (1, rows ++ [r0])], 2⟩) (rhoP gO gR j) henv (fun g t r h => ?_) ⟨by rw [hb]; exact Nat.zero_le _, fun g t h => by rw [hb] at h; exact absurd h (Nat.not_lt_zero _)⟩ (fun g1 t1 r1 g2 t2 r2 p k1 k2 e1 e2 => ?_)
  · rcases hrow g t r h with ⟨rfl, rfl, rfl⟩ | ⟨rfl, hlt, hq⟩ | ⟨rfl, rfl, rfl⟩
    · refine ⟨Nat.zero_lt_two, .inr ⟨gO, 0, _, by simp [rhoP], hO, rfl, ?_⟩⟩
      show WkL _ _ _ (refsC 1 j o n ++ ([AV.ref gR 0 1 o n] ++ [])) (refsC 1 (j + 1) o n)
      rw [refsC_succ]
      refine WkL.append (refs_push (m := j) (Nat.le_refl _) Nat.one_lt_two _ (fun i hi => List.mem_range.1 hi)) (.cons (.ref ?_ Nat.one_lt_two) .nil)
      unfold rhoP
      rw [if_neg (by omega), if_pos rfl, if_neg (by omega)]
    · exact ⟨Nat.one_lt_two, .inr ⟨1, t, r, by unfold rhoP; rw [if_neg (by omega), if_pos rfl, if_pos hlt], by rw [hr t hlt]; exact hq, rfl, WkL.refl (hn t r hq)⟩⟩
    · exact ⟨Nat.one_lt_two, .inr ⟨gR, 0, r, by unfold rhoP; rw [if_neg (by omega), if_pos rfl, if_neg (by omega)], hR, rfl, WkL.refl hn0⟩⟩
  · have val : ∀ g t r, (⟨env', [(0, [⟨1, refsC 1 (j + 1) o n⟩]), (1, rows ++ [r0])], 2⟩ : AS).row g t = some r → (g = 0 ∧ t = 0 ∧ rhoP gO gR j g t = some (gO, 0)) ∨ (g = 1 ∧ t < j ∧ rhoP gO gR j g t = some (1, t)) ∨ (g = 1 ∧ t = j ∧ rhoP gO gR j g t = some (gR, 0)) := fun g t r h => by
      rcases hrow g t r h with ⟨rfl, rfl, _⟩ | ⟨rfl, hlt, _⟩ | ⟨rfl, rfl, _⟩
      · exact .inl ⟨rfl, rfl, by simp [rhoP]⟩
      · exact .inr (.inl ⟨rfl, hlt, by unfold rhoP; rw [if_neg (by omega), if_pos rfl, if_pos hlt]⟩)
      · exact .inr (.inr ⟨rfl, rfl, by unfold rhoP; rw [if_neg (by omega), if_pos rfl, if_neg (by omega)]⟩)
    rcases val g1 t1 r1 k1 with ⟨a1, b1, c1⟩ | ⟨a1, b1, c1⟩ | ⟨a1, b1, c1⟩ <;> rcases val g2 t2 r2 k2 with ⟨a2, b2, c2⟩ | ⟨a2, b2, c2⟩ | ⟨a2, b2, c2⟩ <;> (rw [c1] at e1; rw [c2] at e2; rw [← e1] at e2; simp only [Option.some.injEq, Prod.mk.injEq] at e2) <;> omega
/-- A matrix that is only read. -/
def matZ (n : Nat) (M : List (List Int)) : AV := .sl 1 M.length (M.map fun r => .sl 1 n (zsC r))
theorem nrl_matZ (n : Nat) : ∀ M : List (List Int), nrl (M.map fun r => AV.sl 1 n (zsC r))
  | [] => trivial
  | r :: M => ⟨nrl_zsC r, nrl_matZ n M⟩
theorem nr_matZ (n : Nat) (M : List (List Int)) : nr (matZ n M) := nrl_matZ n M
theorem zs_drop (o n : Nat) (r : List Int) (hr : r.length = n) : ((zsC (padZ o r)).drop (o * 1)).take (n * 1) = zsC r := by
  unfold padZ zsC
  rw [Nat.mul_one, Nat.mul_one, List.map_append, List.drop_append_of_le_length (by simp), List.drop_of_length_le (by simp), List.nil_append, List.take_of_length_le (by simp; omega)]
/-- A matrix of one's own, frozen. -/
theorem fz_mat {s : AS} {gO gR o n : Nat} {M : List (List Int)} (hM : Rect n M) (hO : s.row gO 0 = some ⟨1, refsC gR M.length o n⟩) (hR : ∀ i, s.row gR i = (rowsO o M)[i]?) : Fz s (.ref gO 0 1 0 M.length) (matZ n M) := by
  refine .ref hO rfl (by show (0 + M.length) * 1 ≤ (refsC gR M.length o n).length; rw [refsC_len]; omega) ?_
  show FzL s (((refsC gR M.length o n).drop (0 * 1)).take (M.length * 1)) (M.map fun r => AV.sl 1 n (zsC r))
  rw [Nat.zero_mul, List.drop_zero, Nat.mul_one, List.take_of_length_le (by rw [refsC_len]; exact Nat.le_refl _)]
  have key : ∀ (k : Nat), k ≤ M.length → FzL s ((List.range' (M.length - k) k).map fun i => AV.ref gR i 1 o n) ((M.drop (M.length - k)).map fun r => AV.sl 1 n (zsC r)) := by
    intro k
    induction k with
    | zero => intro _; rw [Nat.sub_zero, List.drop_length]; exact .nil
    | succ k ih =>
      intro hk
      have hi : M.length - (k + 1) < M.length := by omega
      rw [List.drop_eq_getElem_cons hi, List.range'_succ, List.map_cons, List.map_cons, show M.length - (k + 1) + 1 = M.length - k by omega]
      refine .cons ?_ (ih (by omega))
      have hl := hM _ (List.getElem_mem hi)
      refine .ref (by rw [hR, rowsO_at hi]) rfl (by show (o + n) * 1 ≤ (zsC (padZ o _)).length; rw [zsC_len, padZ_len]; omega) ?_
      show FzL s (((zsC (padZ o M[M.length - (k + 1)])).drop (o * 1)).take (n * 1)) (zsC M[M.length - (k + 1)])
      rw [zs_drop o n _ hl]
      exact FzL.refl (hfl_zsC _)
  have := key M.length (Nat.le_refl _)
  rw [Nat.sub_self, List.drop_zero, ← List.range_eq_range'] at this
  exact this
end Go.Proofs.YtlbhgejbfhhipaaGreatDoor

/- Walks: matrices of integers of any size made, and made short. -/
namespace Go.Proofs.YtlbhgejbfhhipaaGreatDoor
open Go Go.Am Go.Lib Go.Sp Z1 Z2 Z3 Z4 Z5 Z6
theorem padZ_zero (l : List Int) : padZ 0 l = l := by simp [padZ]
theorem rowsO_nrl {o : Nat} {M : List (List Int)} {i : Nat} {r : Row} (h : (rowsO o M)[i]? = some r) : nrl r.cells := by
  unfold rowsO at h
  rw [List.getElem?_map] at h
  cases hx : M[i]? with
  | none => rw [hx] at h; cases h
  | some x => rw [hx] at h; cases h; exact nrl_zsC _
theorem rowsO_take {o : Nat} {M : List (List Int)} {j : Nat} (h : j < M.length) : rowsO o (M.take (j + 1)) = rowsO o (M.take j) ++ [⟨1, zsC (padZ o M[j])⟩] := by
  unfold rowsO
  rw [List.take_add_one, List.getElem?_eq_getElem h, List.map_append]
  rfl
def smallM (M : List (List Int)) : Prop := ∀ r ∈ M, small64L r
set_option maxRecDepth 10000 in
theorem longsof_ok {n : Nat} (M : List (List Int)) (hM : Rect n M) (hs : smallM M) (hn : n ≤ 1000000) (hm : M.length ≤ 1000000) : OkW (laiOf Tryz.prog) Tryz.prog 174 [matS M] ⟨[], [], 0⟩ (.ref 0 0 1 0 M.length) ⟨[], [(0, [⟨1, refsC 1 M.length 0 n⟩]), (1, rowsO 0 M)], 2⟩ := by
  refine okw_intro hT 19 Tryz.func174 rfl rfl rfl (Nat.le_of_ble_eq_true rfl) (Nat.zero_le _) ?_
  intro w0 F0 I β0 hβ
  have hβ0 : β0 = [] := List.eq_nil_of_length_eq_zero hβ
  subst hβ0
  unfold matS
  repeat (first|refine z2 ?_|refine z1 ?_|refine z3 ?_|refine z4 ?_|refine z5 ?_)
  refine awp_loop (fun x : { x : Nat // x ≤ M.length } => ⟨[(3, .ref 0 0 1 0 x.1), (6, .sl 1 M.length (rowsC M)), (7, .v (.int .i64 M.length)), (8, .v (.int .i64 x.1))], [(0, [⟨1, refsC 1 x.1 0 n⟩]), (1, rowsO 0 (M.take x.1))], 2⟩) (fun x => M.length - x.1) ⟨0, Nat.zero_le _⟩ ?_ ?_
  · exact le_ren (fun _ _ => none) ⟨⟨_, rfl, .nilref 1 rfl Nat.zero_lt_two⟩, ⟨_, rfl, .refl (nrl_rowsC M)⟩, ⟨_, rfl, .refl trivial⟩, ⟨_, rfl, .refl trivial⟩, trivial⟩ ⟨⟨⟨Nat.zero_lt_two, .inl ⟨rfl, rfl⟩⟩, trivial⟩, trivial, trivial⟩ rfl (base_nil _ _)
  rintro ⟨j, hj⟩
  simp only at hj ⊢
  repeat (first|refine z2 ?_|refine z1 ?_|refine z3 ?_|refine z4 ?_|refine z5 ?_)
  refine awp_cond rfl (fun h => ?_) (fun h => ?_)
  · have hjl : j < M.length := by have := of_decide_eq_true h; omega
    have hl := hM _ (List.getElem_mem hjl)
    have hlo := longof_ok M[j] (hs _ (List.getElem_mem hjl)) (by omega)
    rw [hl] at hlo
    repeat (first|refine z2 ?_|refine z1 ?_|refine z3 ?_|refine z4 ?_|refine z5 ?_)
    refine al_pure hT rfl (pure_load_pt rfl rfl rfl (rowsC_drop (j := j) (by omega) hjl)) rfl rfl True.intro ?_
    repeat (first|refine z2 ?_|refine z1 ?_|refine z3 ?_|refine z4 ?_|refine z5 ?_)
    refine al_callw (fun _ _ => none) [(2, [⟨1, zsC M[j]⟩]), (0, [⟨1, refsC 1 j 0 n⟩]), (1, rowsO 0 (M.take j))] 3 (.ref 2 0 1 0 n) hlo rfl rfl rfl rfl rfl (.cons (.refl (nr_rowS _)) .nil) (hand_ren trivial rfl (fun g' _ _ _ h => absurd h (Nat.not_lt_zero _))) rfl rfl rfl (back_add rfl rfl (hfl_zsC _)) (.ref rfl (Nat.lt_succ_self 2)) ?_
    refine al_litF hT rfl rfl rfl rfl rfl rfl rfl rfl rfl ?_
    refine al_append hT rfl rfl rfl rfl rfl rfl rfl rfl rfl rfl rfl rfl rfl (by show (refsC 1 j 0 n).length = _ * 1; rw [refsC_len, Nat.mul_one]) (fun g r h e => by cases e; cases h; rfl) (by intro x hx; simp only [List.append_nil, List.mem_singleton] at hx; subst hx; rfl) (by show (_ + 1) * 24 ≤ _; omega) (by omega) ?_
    repeat (first|refine z2 ?_|refine z1 ?_|refine z3 ?_|refine z4 ?_|refine z5 ?_)
    refine ⟨⟨j + 1, hjl⟩, ?_, by show M.length - (j + 1) < M.length - j; omega⟩
    simp only
    rw [rowsO_take hjl, padZ_zero]
    refine le_push (gO := 3) (gR := 2) (by rw [rowsO_len, List.length_take]; omega) (by omega) (by omega) (by omega) rfl rfl rfl (fun i _ => rfl) (fun i r h => rowsO_nrl h) (nrl_zsC _) ?_
    exact ⟨⟨.ref 3 0 1 0 (j + 1), rfl, .ref rfl Nat.zero_lt_two⟩, ⟨_, rfl, .refl (nrl_rowsC M)⟩, ⟨_, rfl, .refl trivial⟩, ⟨_, rfl, .refl trivial⟩, trivial⟩
  · have hjl : j = M.length := by have := of_decide_eq_false h; omega
    subst hjl
    rw [List.take_length]
    repeat (first|refine z2 ?_|refine z1 ?_|refine z3 ?_|refine z4 ?_|refine z5 ?_)
    exact awp_ret ⟨.inl rfl, _, Le.refl _ _, rfl, rfl, rfl⟩
theorem longsof_okp {n : Nat} (M : List (List Int)) (hM : Rect n M) (hs : smallM M) (hn : n ≤ 1000000) (hm : M.length ≤ 1000000) : OkP (laiOf Tryz.prog) Tryz.prog 174 [matS M] (matZ n M) :=
  okp_of_okw (longsof_ok M hM hs hn hm) (fz_mat hM rfl (fun _ => rfl)) (nr_matZ n M)
theorem zeros_ok (n : Nat) (hn : n ≤ 1000000) : OkW (laiOf Tryz.prog) Tryz.prog 218 [.v (.int .i64 n)] ⟨[], [], 0⟩ (.ref 0 0 1 0 n) ⟨[], [(0, [⟨1, zsC (List.replicate n 0)⟩])], 1⟩ := by
  refine okw_intro hT 6 Tryz.func218 rfl rfl rfl (Nat.le_of_ble_eq_true rfl) (Nat.zero_le _) ?_
  intro w0 F0 I β0 hβ
  have hlo := longof_ok (List.replicate n 0) (fun x hx => by rw [List.eq_of_mem_replicate hx]; omega) (by simp; omega)
  unfold rowS at hlo
  rw [List.length_replicate] at hlo
  repeat (first|refine z2 ?_|refine z1 ?_|refine z3 ?_|refine z4 ?_|refine z5 ?_)
  refine al_make hT rfl rfl rfl rfl rfl rfl rfl rfl rfl rfl (by omega) (by omega) (by show (8 : Int) * _ ≤ _; omega) (by omega) ?_
  have e0 : ((n : Int)).toNat = n := by omega
  refine al_callw (fun _ _ => none) [(1, [⟨1, zsC (List.replicate n 0)⟩])] 2 (.ref 1 0 1 0 n) hlo rfl rfl rfl rfl rfl (.cons (.frz rfl (fun _ _ h => by cases h) rfl (by show (0 + (n : Int).toNat) * 1 ≤ (zeroRep [Value.int .i64 0] (n : Int).toNat).length; unfold zeroRep; simp) (wkl_eq (by
    show ((zeroRep [Value.int .i64 0] (n : Int).toNat).drop (0 * 1)).take ((n : Int).toNat * 1) = i64s (List.replicate n 0)
    rw [e0]
    unfold zeroRep i64s
    simp) (nrl_i64s _))) .nil) (hand_ren trivial rfl (fun g' _ _ _ h => absurd h (Nat.not_lt_zero _))) rfl rfl rfl (back_ren ⟨⟨.inl ⟨0, 0, _, rfl, rfl, Nat.one_lt_two, rfl, RnL.refl (hfl_zsC _)⟩, trivial⟩, trivial⟩) (.ref rfl Nat.one_lt_two) ?_
  repeat (first|refine z2 ?_|refine z1 ?_|refine z3 ?_|refine z4 ?_|refine z5 ?_)
  refine awp_ret ⟨.inl rfl, ⟨[(2, .ref 0 0 1 0 n)], [(0, [⟨1, zsC (List.replicate n 0)⟩])], 1⟩, le_ren (fun g t => cond (Nat.beq g 0) (some (1, t)) none) ⟨⟨_, rfl, .ref rfl Nat.zero_lt_one⟩, trivial⟩ ⟨⟨⟨Nat.zero_lt_one, .inr ⟨1, 0, _, rfl, rfl, rfl, WkL.refl (nrl_zsC _)⟩⟩, trivial⟩, trivial⟩ rfl ⟨by show β0.length ≤ _; rw [hβ]; exact Nat.zero_le _, fun g t h => by (have h' : g < β0.length := h); rw [hβ] at h'; exact absurd h' (Nat.not_lt_zero _)⟩, rfl, rfl, rfl⟩
end Go.Proofs.YtlbhgejbfhhipaaGreatDoor

/- Walks: rows and matrices made short. -/
namespace Go.Proofs.YtlbhgejbfhhipaaGreatDoor
open Go Go.Am Go.Lib Go.Sp Z1 Z2 Z3 Z4 Z5 Z6
theorem i64s_snoc (l : List Int) (z : Int) : i64s l ++ ([AV.v (.int .i64 z)] ++ []) = i64s (l ++ [z]) := by simp [i64s]
def in64 (z : Int) : Prop := -9223372036854775808 ≤ z ∧ z ≤ 9223372036854775807
instance (z : Int) : Decidable (in64 z) := by unfold in64; infer_instance
theorem sub_i64 {st : AS} {g : Nat} {l : List Int} (h : st.row g 0 = some ⟨1, i64s l⟩) : Sub st (.ref g 0 1 0 l.length) (rowS l) :=
  .own h rfl (by show (0 + l.length) * 1 ≤ (i64s l).length; rw [i64s_len]; omega) (by
    show SubL st (((i64s l).drop (0 * 1)).take (l.length * 1)) (i64s l)
    rw [Nat.zero_mul, List.drop_zero, Nat.mul_one, List.take_of_length_le (by rw [i64s_len]; exact Nat.le_refl _)]
    exact SubL.refl (nrl_i64s l))
set_option maxRecDepth 10000 in
theorem short_ok (l : List Int) (hz : ∀ z ∈ l, okZ z) (hl : l.length ≤ 1000000) : OkP (laiOf Tryz.prog) Tryz.prog 220 [zRow l] (if l.all fitsB = true then .tup [rowS l, .v (.int .i64 0)] else .tup [.v (.slice none 0 0), .v (.int .i64 4)]) := by
  refine okp_intro hT 39 Tryz.func220 rfl rfl rfl (Nat.le_of_ble_eq_true rfl) (by split <;> first | exact ⟨nrl_i64s l, trivial, trivial⟩ | exact ⟨trivial, trivial, trivial⟩) ?_
  intro w0 F0 I
  unfold zRow
  repeat (first|refine z2 ?_|refine z1 ?_|refine z3 ?_|refine z4 ?_|refine z5 ?_)
  refine al_make hT rfl rfl rfl rfl rfl rfl rfl rfl rfl rfl (by omega) (by omega) (by show (8 : Int) * _ ≤ _; omega) (by omega) ?_
  repeat (first|refine z2 ?_|refine z1 ?_|refine z3 ?_|refine z4 ?_|refine z5 ?_)
  refine awp_loop (fun x : { x : Nat // x ≤ l.length ∧ (l.take x).all fitsB = true } => ⟨[(4, .ref 0 0 1 0 x.1), (12, .sl 1 l.length (zsC l)), (13, .v (.int .i64 l.length)), (14, .v (.int .i64 x.1))], [(0, [⟨1, i64s (l.take x.1)⟩])], 1⟩) (fun x => l.length - x.1) ⟨0, Nat.zero_le _, by simp⟩ (le_sub ⟨rfl, rfl, rfl, rfl, trivial⟩ rfl rfl) ?_
  rintro ⟨j, hj, hall⟩
  simp only at hj hall ⊢
  repeat (first|refine z2 ?_|refine z1 ?_|refine z3 ?_|refine z4 ?_|refine z5 ?_)
  refine awp_cond rfl (fun h => ?_) (fun h => ?_)
  · have hjl : j < l.length := by have := of_decide_eq_true h; omega
    clear h
    have hok := hz _ (List.getElem_mem hjl)
    have hnext : (l.take (j + 1)).all fitsB = fitsB l[j] := by
      rw [List.take_add_one, List.getElem?_eq_getElem hjl, Option.toList_some, List.all_append, hall]
      simp
    have hbad : fitsB l[j] = false → l.all fitsB = false := fun e => by
      rw [List.all_eq_false]
      exact ⟨l[j], List.getElem_mem hjl, by rw [e]; simp⟩
    repeat (first|refine z2 ?_|refine z1 ?_|refine z3 ?_|refine z4 ?_|refine z5 ?_)
    refine al_pure hT rfl (pure_load_pt rfl rfl rfl (zsC_drop (j := j) (by omega) hjl)) rfl rfl True.intro ?_
    obtain ⟨z, hze⟩ : ∃ z, z = l[j] := ⟨_, rfl⟩
    rw [← hze] at hok hnext hbad ⊢
    repeat (first|refine z2 ?_|refine z1 ?_|refine z3 ?_|refine z4 ?_|refine z5 ?_)
    refine zc (zsmall_ok z hok) ?_
    repeat (refine z2 ?_)
    refine al_nil ?_
    (repeat (first | refine awp_seq ?_ | refine awp_block ?_ | refine awp_skip ?_))
    refine awp_at ⟨[(4, .ref 0 0 1 0 j), (7, .v (.int .i64 (if in64 z then z else 0))), (12, .sl 1 l.length (zsC l)), (13, .v (.int .i64 l.length)), (14, .v (.int .i64 j)), (32, .v (.bool (!(fitsB z))))], [(0, [⟨1, i64s (l.take j)⟩])], 1⟩ ?_ ?_
    · refine awp_region ?_
      by_cases hin : in64 z
      · have hin' : -9223372036854775808 ≤ z ∧ z ≤ 9223372036854775807 := hin
        rw [if_pos hin', decide_eq_true hin', if_pos hin]
        by_cases hgt : z > 1000000000
        · have hdB : decide (z > 1000000000) = true := decide_eq_true hgt
          have hf : fitsB z = false := by unfold fitsB; exact decide_eq_false (by omega)
          have hdA : (!true) = false := rfl
          repeat (first|refine z2 ?_|refine z1 ?_|refine z3 ?_|refine z4 ?_|refine z5 ?_|refine z8 ?_|refine z9 ?_)
          refine al_pick rfl rfl rfl (v := cond (!true) true (decide (z > 1000000000))) (r := .v (.bool true)) (by rw [hdB]; rfl) rfl rfl ?_
          repeat (first|refine z2 ?_|refine z1 ?_|refine z3 ?_|refine z4 ?_|refine z5 ?_)
          refine le_sub ⟨rfl, rfl, rfl, rfl, rfl, ?_, trivial⟩ rfl rfl
          rw [hf]; rfl
        · have hdB : decide (z > 1000000000) = false := decide_eq_false hgt
          have hdA : (!true) = false := rfl
          repeat (first|refine z2 ?_|refine z1 ?_|refine z3 ?_|refine z4 ?_|refine z5 ?_|refine z8 ?_|refine z9 ?_)
          refine le_sub ⟨rfl, rfl, rfl, rfl, rfl, ?_, trivial⟩ rfl rfl
          show some (AV.v (.bool (cond (cond (!true) true (decide (z > 1000000000))) true (decide (z < -1000000000))))) = _
          rw [hdB]
          show some (AV.v (.bool (decide (z < -1000000000)))) = _
          congr 3
          unfold fitsB
          by_cases h3 : z < -1000000000
          · rw [decide_eq_true h3, decide_eq_false (show ¬ (-1000000000 ≤ z ∧ z ≤ 1000000000) by omega)]; rfl
          · rw [decide_eq_false h3, decide_eq_true (show -1000000000 ≤ z ∧ z ≤ 1000000000 by omega)]; rfl
      · have hin' : ¬ (-9223372036854775808 ≤ z ∧ z ≤ 9223372036854775807) := hin
        rw [if_neg hin', decide_eq_false hin', if_neg hin]
        have hf : fitsB z = false := by unfold fitsB; exact decide_eq_false (by omega)
        repeat (first|refine z2 ?_|refine z1 ?_|refine z3 ?_|refine z4 ?_|refine z5 ?_|refine z6 ?_|refine z7 ?_)
        refine al_pick rfl rfl rfl (v := true) (r := .v (.bool true)) rfl rfl rfl ?_
        repeat (first|refine z2 ?_|refine z1 ?_|refine z3 ?_|refine z4 ?_|refine z5 ?_|refine z6 ?_|refine z7 ?_)
        refine al_pick rfl rfl rfl (v := true) (r := .v (.bool true)) rfl rfl rfl ?_
        repeat (first|refine z2 ?_|refine z1 ?_|refine z3 ?_|refine z4 ?_|refine z5 ?_)
        refine le_sub ⟨rfl, rfl, rfl, rfl, rfl, ?_, trivial⟩ rfl rfl
        rw [hf]; rfl
    · refine awp_cond rfl (fun h => ?_) (fun h => ?_)
      · have h : fitsB z = false := by simpa using h
        rw [hbad h]
        repeat (first|refine z2 ?_|refine z1 ?_|refine z3 ?_|refine z4 ?_|refine z5 ?_)
        exact awp_ret ⟨.inl rfl, ret_tup rfl (.cons (.refl trivial) (.cons (.refl trivial) .nil))⟩
      · have h : fitsB z = true := by simpa using h
        have hin : in64 z := by unfold fitsB at h; have := of_decide_eq_true h; unfold in64; omega
        rw [if_pos hin]
        repeat (first|refine z2 ?_|refine z1 ?_|refine z3 ?_|refine z4 ?_|refine z5 ?_)
        refine al_litF hT rfl rfl rfl rfl rfl rfl rfl rfl rfl ?_
        refine al_append hT rfl rfl rfl rfl rfl rfl rfl rfl rfl rfl rfl rfl rfl (by show (i64s _).length = _ * 1; rw [i64s_len, List.length_take]; omega) (fun g r h e => by cases e; cases h; rfl) (by intro x hx; simp only [List.append_nil, List.mem_singleton] at hx; subst hx; rfl) (by show (_ + 1) * 8 ≤ _; omega) (by omega) ?_
        repeat (first|refine z2 ?_|refine z1 ?_|refine z3 ?_|refine z4 ?_|refine z5 ?_)
        refine ⟨⟨j + 1, hjl, by rw [hnext, h]⟩, ?_, by show l.length - (j + 1) < l.length - j; omega⟩
        refine le_ren (fun g t => cond (Nat.beq g 0) (some (1, t)) none) ⟨⟨_, rfl, .ref rfl Nat.zero_lt_one⟩, ⟨_, rfl, .refl (nrl_zsC l)⟩, ⟨_, rfl, .refl trivial⟩, ⟨_, rfl, .refl trivial⟩, trivial⟩ ⟨⟨⟨Nat.zero_lt_one, .inr ⟨1, 0, _, rfl, rfl, rfl, ?_⟩⟩, trivial⟩, trivial⟩ rfl (base_nil _ _)
        exact wkl_eq (by show i64s (l.take j) ++ ([AV.v (.int .i64 z)] ++ []) = i64s (l.take (j + 1)); rw [i64s_snoc, List.take_add_one, List.getElem?_eq_getElem hjl, Option.toList_some, hze]) (nrl_i64s _)
  · have hjl : j = l.length := by have := of_decide_eq_false h; omega
    subst hjl
    rw [List.take_length] at hall
    rw [List.take_length, hall]
    repeat (first|refine z2 ?_|refine z1 ?_|refine z3 ?_|refine z4 ?_|refine z5 ?_)
    exact awp_ret ⟨.inl rfl, ret_tup rfl (.cons (sub_i64 rfl) (.cons (.refl trivial) .nil))⟩
end Go.Proofs.YtlbhgejbfhhipaaGreatDoor

/- Walks: a matrix of integers of any size made short. -/
namespace Go.Proofs.YtlbhgejbfhhipaaGreatDoor
open Go Go.Am Go.Lib Go.Sp Z1 Z2 Z3 Z4 Z5 Z6
def fitsM (M : List (List Int)) : Bool := M.all fun r => r.all fitsB
def okM (M : List (List Int)) : Prop := ∀ r ∈ M, ∀ z ∈ r, okZ z
theorem matZ_drop {n : Nat} {M : List (List Int)} {i j : Nat} (h : i = j) (hj : j < M.length) (hM : Rect n M) : ((M.map fun r => AV.sl 1 n (zsC r)).drop i)[0]? = some (zRow M[j]) := by
  subst h
  rw [List.getElem?_drop, Nat.add_zero, List.getElem?_map, List.getElem?_eq_getElem hj]
  show some (AV.sl 1 n (zsC M[i])) = some (AV.sl 1 M[i].length (zsC M[i]))
  rw [hM _ (List.getElem_mem hj)]
theorem rowsC_snoc {M : List (List Int)} {j : Nat} (hj : j < M.length) : rowsC (M.take j) ++ ([rowS M[j]] ++ []) = rowsC (M.take (j + 1)) := by
  rw [List.take_add_one, List.getElem?_eq_getElem hj]
  unfold rowsC
  rw [List.map_append]
  rfl
theorem rowsC_len (M : List (List Int)) : (rowsC M).length = M.length := List.length_map _
theorem sub_matS {st : AS} {g : Nat} {M : List (List Int)} (h : st.row g 0 = some ⟨1, rowsC M⟩) : Sub st (.ref g 0 1 0 M.length) (matS M) :=
  .own h rfl (by show (0 + M.length) * 1 ≤ (rowsC M).length; rw [rowsC_len]; omega) (by
    show SubL st (((rowsC M).drop (0 * 1)).take (M.length * 1)) (rowsC M)
    rw [Nat.zero_mul, List.drop_zero, Nat.mul_one, List.take_of_length_le (by rw [rowsC_len]; exact Nat.le_refl _)]
    exact SubL.refl (nrl_rowsC M))
def lshR (c : Nat) (M : List (List Int)) : AV := if fitsM M = true then .tup [latS c M, .v (.int .i64 0)] else .tup [.agg [.v (.int .i64 0), .v (.slice none 0 0)], .v (.int .i64 4)]
set_option maxRecDepth 10000 in
theorem lshort_ok {n c : Nat} (M : List (List Int)) (hM : Rect n M) (hz : okM M) (hn : n ≤ 1000000) (hm : M.length ≤ 1000000) : OkP (laiOf Tryz.prog) Tryz.prog 176 [matZ n M, .v (.int .i64 c)] (lshR c M) := by
  unfold lshR
  refine okp_intro hT 36 Tryz.func176 rfl rfl rfl (Nat.le_of_ble_eq_true rfl) (by split <;> first | exact ⟨nr_latS c M, trivial, trivial⟩ | exact ⟨⟨trivial, trivial, trivial⟩, trivial, trivial⟩) ?_
  intro w0 F0 I
  unfold matZ
  repeat (first|refine z2 ?_|refine z1 ?_|refine z3 ?_|refine z4 ?_|refine z5 ?_)
  refine awp_loop (fun x : { x : Nat // x ≤ M.length ∧ fitsM (M.take x) = true } => ⟨[(4, .adr 0 0 0), (6, .adr 1 0 0), (13, .sl 1 M.length (M.map fun r => .sl 1 n (zsC r))), (14, .v (.int .i64 M.length)), (15, .v (.int .i64 x.1))], [(0, [⟨2, [.v (.int .i64 0), .v (.slice none 0 0)]⟩]), (1, [⟨2, [.v (.int .i64 c), .ref 2 0 1 0 x.1]⟩]), (2, [⟨1, rowsC (M.take x.1)⟩])], 3⟩) (fun x => M.length - x.1) ⟨0, Nat.zero_le _, rfl⟩ ?_ ?_
  · refine le_ren (fun g t => cond (Nat.beq g 2) none (some (g, t))) ⟨⟨_, rfl, .adr rfl (by show 0 < 3; omega)⟩, ⟨_, rfl, .adr rfl (by show 1 < 3; omega)⟩, ⟨_, rfl, .refl (nrl_matZ n M)⟩, ⟨_, rfl, .refl trivial⟩, ⟨_, rfl, .refl trivial⟩, trivial⟩ ?_ rfl (base_nil _ _)
    exact ⟨⟨⟨by show 0 < 3; omega, .inr ⟨0, 0, _, rfl, rfl, rfl, WkL.refl ⟨trivial, trivial, trivial⟩⟩⟩, trivial⟩, ⟨⟨by show 1 < 3; omega, .inr ⟨1, 0, _, rfl, rfl, rfl, .cons (.refl trivial) (.cons (.nilref 1 rfl (by show 2 < 3; omega)) .nil)⟩⟩, trivial⟩, ⟨⟨by show 2 < 3; omega, .inl ⟨rfl, rfl⟩⟩, trivial⟩, trivial⟩
  rintro ⟨j, hj, hall⟩
  simp only at hj hall ⊢
  repeat (first|refine z2 ?_|refine z1 ?_|refine z3 ?_|refine z4 ?_|refine z5 ?_)
  refine awp_cond rfl (fun h => ?_) (fun h => ?_)
  · have hjl : j < M.length := by have := of_decide_eq_true h; omega
    clear h
    have hnext : fitsM (M.take (j + 1)) = M[j].all fitsB := by
      unfold fitsM at hall ⊢
      rw [List.take_add_one, List.getElem?_eq_getElem hjl, Option.toList_some, List.all_append, hall]
      simp
    have hlo := short_ok M[j] (hz _ (List.getElem_mem hjl)) (by rw [hM _ (List.getElem_mem hjl)]; omega)
    have hnr : nr (zRow M[j]) := nrl_zsC _
    repeat (first|refine z2 ?_|refine z1 ?_|refine z3 ?_|refine z4 ?_|refine z5 ?_)
    refine al_pure hT rfl (pure_load_pt rfl rfl rfl (matZ_drop (by omega) hjl hM)) rfl rfl True.intro ?_
    repeat (first|refine z2 ?_|refine z1 ?_|refine z3 ?_|refine z4 ?_|refine z5 ?_)
    by_cases hf : M[j].all fitsB = true
    · rw [if_pos hf] at hlo
      refine al_call hlo rfl rfl rfl rfl (.cons (.refl hnr) .nil) (.inr ⟨⟨hnr, trivial⟩, rfl⟩) rfl rfl ?_
      repeat (first|refine z2 ?_|refine z1 ?_|refine z3 ?_|refine z4 ?_|refine z5 ?_)
      refine awp_cond rfl (fun h => absurd h (by decide)) (fun h => ?_)
      repeat (first|refine z2 ?_|refine z1 ?_|refine z3 ?_|refine z4 ?_|refine z5 ?_)
      refine al_litF hT rfl rfl rfl rfl rfl rfl rfl rfl rfl ?_
      refine al_append hT rfl rfl rfl rfl rfl rfl rfl rfl rfl rfl rfl rfl rfl (by show (rowsC _).length = _ * 1; rw [rowsC_len, List.length_take]; omega) (fun g r h e => by cases e; cases h; rfl) (by intro x hx; simp only [List.append_nil, List.mem_singleton] at hx; subst hx; rfl) (by show (_ + 1) * 24 ≤ _; omega) (by omega) ?_
      repeat (first|refine z2 ?_|refine z1 ?_|refine z3 ?_|refine z4 ?_|refine z5 ?_)
      refine ⟨⟨j + 1, hjl, by rw [hnext, hf]⟩, ?_, by show M.length - (j + 1) < M.length - j; omega⟩
      refine le_ren (fun g t => cond (Nat.beq g 2) (some (3, t)) (some (g, t))) ⟨⟨_, rfl, .adr rfl (by show 0 < 3; omega)⟩, ⟨_, rfl, .adr rfl (by show 1 < 3; omega)⟩, ⟨_, rfl, .refl (nrl_matZ n M)⟩, ⟨_, rfl, .refl trivial⟩, ⟨_, rfl, .refl trivial⟩, trivial⟩ ?_ rfl (base_nil _ _)
      exact ⟨⟨⟨by show 0 < 3; omega, .inr ⟨0, 0, _, rfl, rfl, rfl, WkL.refl ⟨trivial, trivial, trivial⟩⟩⟩, trivial⟩, ⟨⟨by show 1 < 3; omega, .inr ⟨1, 0, _, rfl, rfl, rfl, .cons (.refl trivial) (.cons (.ref rfl (by show 2 < 3; omega)) .nil)⟩⟩, trivial⟩, ⟨⟨by show 2 < 3; omega, .inr ⟨3, 0, _, rfl, rfl, rfl, wkl_eq (rowsC_snoc hjl) (nrl_rowsC _)⟩⟩, trivial⟩, trivial⟩
    · rw [if_neg hf] at hlo
      have hbad : fitsM M = false := by
        unfold fitsM
        rw [List.all_eq_false]
        exact ⟨M[j], List.getElem_mem hjl, hf⟩
      rw [hbad]
      refine al_call hlo rfl rfl rfl rfl (.cons (.refl hnr) .nil) (.inr ⟨⟨hnr, trivial⟩, rfl⟩) rfl rfl ?_
      repeat (first|refine z2 ?_|refine z1 ?_|refine z3 ?_|refine z4 ?_|refine z5 ?_)
      refine awp_cond rfl (fun h => ?_) (fun h => absurd h (by decide))
      repeat (first|refine z2 ?_|refine z1 ?_|refine z3 ?_|refine z4 ?_|refine z5 ?_)
      exact awp_ret ⟨.inl rfl, ret_tup rfl (.cons (.refl ⟨trivial, trivial, trivial⟩) (.cons (.refl trivial) .nil))⟩
  · have hjl : j = M.length := by have := of_decide_eq_false h; omega
    subst hjl
    rw [List.take_length] at hall
    rw [List.take_length, hall]
    repeat (first|refine z2 ?_|refine z1 ?_|refine z3 ?_|refine z4 ?_|refine z5 ?_)
    rw [if_pos rfl]
    exact awp_ret ⟨.inl rfl, ret_tup rfl (.cons (.agg (.cons (.refl trivial) (.cons (sub_matS rfl) .nil))) (.cons (.refl trivial) .nil))⟩
end Go.Proofs.YtlbhgejbfhhipaaGreatDoor

/- Walks: a matrix handed over; the rows of a matrix that begin with zeros. -/
namespace Go.Proofs.YtlbhgejbfhhipaaGreatDoor
open Go Go.Am Go.Lib Go.Sp Z1 Z2 Z3 Z4 Z5 Z6
theorem row_pair {e : List (Nat × AV)} {ga gb nx : Nat} {cells : List AV} {rows : List Row} {g t : Nat} {r : Row} (h : (⟨e, [(ga, [⟨1, cells⟩]), (gb, rows)], nx⟩ : AS).row g t = some r) : (g = ga ∧ t = 0 ∧ r = ⟨1, cells⟩) ∨ (g = gb ∧ rows[t]? = some r) := by
  rcases row_cons h with ⟨rfl, hq⟩ | ⟨_, hq⟩
  · cases t with
    | zero => simp at hq; exact .inl ⟨rfl, rfl, hq.symm⟩
    | succ t => simp at hq
  · simp only [Am.look] at hq
    cases e2 : Nat.beq gb g with
    | false => rw [e2] at hq; cases hq
    | true =>
      rw [e2] at hq
      exact .inr ⟨(Nat.eq_of_beq_eq_true e2).symm, hq⟩
/-- A matrix is handed over whole. -/
theorem hand_two {st : AS} {ga gb : Nat} {cells cells' : List AV} {rows : List Row} (π : Nat → Nat) (hab : ga ≠ gb) (hlt : ga < st.nx ∧ gb < st.nx) (hc : st.row ga 0 = some ⟨1, cells⟩) (hw : WkL st (rho2 ga gb 0 1 π) 2 cells cells')
    (hr : ∀ i r, rows[i]? = some r → st.row gb (π i) = some r ∧ nrl r.cells) (hπ : ∀ i j, i < rows.length → j < rows.length → π i = π j → i = j) : Hand st (rho2 ga gb 0 1 π) ⟨[], [(0, [⟨1, cells'⟩]), (1, rows)], 2⟩ := by
  refine ⟨fun g t r h => ?_, fun g1 t1 r1 g2 t2 r2 p k1 k2 e1 e2 => ?_, fun g' t' g t h e => ?_⟩
  · rcases row_pair h with ⟨rfl, rfl, rfl⟩ | ⟨rfl, hq⟩
    · exact ⟨Nat.zero_lt_two, .inr ⟨ga, 0, _, rfl, hc, rfl, hw⟩⟩
    · obtain ⟨a1, a2⟩ := hr t r hq
      exact ⟨Nat.one_lt_two, .inr ⟨gb, π t, _, rfl, a1, rfl, WkL.refl a2⟩⟩
  · rcases row_pair k1 with ⟨rfl, rfl, _⟩ | ⟨rfl, q1⟩ <;> rcases row_pair k2 with ⟨rfl, rfl, _⟩ | ⟨rfl, q2⟩
    · exact ⟨rfl, rfl⟩
    · have e1 : some (ga, 0) = some p := e1
      have e2 : some (gb, π t2) = some p := e2
      rw [← e1] at e2
      simp only [Option.some.injEq, Prod.mk.injEq] at e2
      exact absurd e2.1.symm hab
    · have e1 : some (gb, π t1) = some p := e1
      have e2 : some (ga, 0) = some p := e2
      rw [← e1] at e2
      simp only [Option.some.injEq, Prod.mk.injEq] at e2
      exact absurd e2.1 hab
    · have e1 : some (gb, π t1) = some p := e1
      have e2 : some (gb, π t2) = some p := e2
      rw [← e1] at e2
      simp only [Option.some.injEq, Prod.mk.injEq, true_and] at e2
      exact ⟨rfl, hπ t1 t2 (List.getElem?_eq_some_iff.1 q1).1 (List.getElem?_eq_some_iff.1 q2).1 e2.symm⟩
  · have h : g' < 2 := h
    rcases Nat.lt_or_ge g' 1 with h0 | h0
    · obtain rfl : g' = 0 := by omega
      have e : some (ga, t') = some (g, t) := e
      cases e; exact hlt.1
    · obtain rfl : g' = 1 := by omega
      have e : some (gb, π t') = some (g, t) := e
      cases e; exact hlt.2
theorem rnl_refs {τ : Tau} {k m o n nx : Nat} (h : ∀ t, τ 3 t = some (k, t)) (hk : k < nx) : RnL τ nx (refsC 3 m o n) (refsC k m o n) := by
  unfold refsC
  induction (List.range m) with
  | nil => exact .nil
  | cons i l ih => exact .cons (.ref (h i) hk) ih
/-- A matrix is handed back, in fresh groups; all else is forgotten. -/
theorem back_two {st s0 : AS} {ρ : Rho} {e : List (Nat × AV)} {k m o n : Nat} {rows : List Row} (hs : s0.nx = 2) (hn : st.nx = k) (hf : ∀ (i : Nat) (r : Row), rows[i]? = some r → hfl r.cells) :
    Back st ρ s0 ⟨[], [(2, [⟨1, refsC 3 m o n⟩]), (3, rows)], 4⟩ ⟨e, [(k, [⟨1, refsC (k + 1) m o n⟩]), (k + 1, rows)], k + 2⟩ := by
  have t2 : ∀ t, tauOf ρ s0.nx st.nx 2 t = some (k, t) := fun t => by rw [hs, hn]; rfl
  have t3 : ∀ t, tauOf ρ s0.nx st.nx 3 t = some (k + 1, t) := fun t => by rw [hs, hn]; rfl
  intro g t r hr
  rcases row_pair hr with ⟨rfl, rfl, rfl⟩ | ⟨rfl, hq⟩
  · exact .inl ⟨2, 0, _, rfl, t2 0, by show g < g + 2; omega, rfl, rnl_refs t3 (by show g + 1 < g + 2; omega)⟩
  · refine .inl ⟨3, t, r, hq, t3 t, by show k + 1 < k + 2; omega, rfl, RnL.refl (hf t r hq)⟩
theorem rowsO_hfl {o : Nat} {M : List (List Int)} {i : Nat} {r : Row} (h : (rowsO o M)[i]? = some r) : hfl r.cells := by
  unfold rowsO at h
  rw [List.getElem?_map] at h
  cases hx : M[i]? with
  | none => rw [hx] at h; cases h
  | some x => rw [hx] at h; cases h; exact hfl_zsC _
/-- Whole groups renamed. -/
theorem le_three {κ : Cx} {st : AS} {env' : List (Nat × AV)} (gq : Option Nat) {c0 cells' : List AV} {rows : List Row} (hb : κ.β0.length ≤ 2) (h0 : st.row 0 0 = some ⟨1, c0⟩) (hc0 : ∀ ρ : Rho, (∀ t, ρ 1 t = some (1, t)) → WkL st ρ 3 c0 c0) (h1 : ∀ t r, rows[t]? = some r → st.row 1 t = some r ∧ nrl r.cells) (hO : (gq = none ∧ cells' = []) ∨ ∃ gO cells, gq = some gO ∧ 2 ≤ gO ∧ st.row gO 0 = some ⟨1, cells⟩ ∧ ∀ ρ : Rho, (∀ t, ρ 1 t = some (1, t)) → WkL st ρ 3 cells cells')
    (henv : envLe st (fun g t => if g = 2 then gq.map (·, t) else some (g, t)) 3 env') : Le κ st ⟨env', [(0, [⟨1, c0⟩]), (1, rows), (2, [⟨1, cells'⟩])], 3⟩ := by
  have hrow : ∀ g t r, (⟨env', [(0, [⟨1, c0⟩]), (1, rows), (2, [⟨1, cells'⟩])], 3⟩ : AS).row g t = some r → (g = 0 ∧ t = 0 ∧ r = ⟨1, c0⟩) ∨ (g = 1 ∧ rows[t]? = some r) ∨ (g = 2 ∧ t = 0 ∧ r = ⟨1, cells'⟩) := fun g t r h => by
    rcases row_cons h with ⟨rfl, hq⟩ | ⟨hne, hq⟩
    · cases t with
      | zero => simp at hq; exact .inl ⟨rfl, rfl, hq.symm⟩
      | succ t => simp at hq
    · rcases row_cons (e := env') (nx := 3) (show (⟨env', [(1, rows), (2, [⟨1, cells'⟩])], 3⟩ : AS).row g t = some r from hq) with ⟨rfl, hq⟩ | ⟨_, hq⟩
      · exact .inr (.inl ⟨rfl, hq⟩)
      · simp only [Am.look] at hq
        cases e2 : Nat.beq 2 g with
        | false => rw [e2] at hq; cases hq
        | true =>
          rw [e2] at hq
          have := Nat.eq_of_beq_eq_true e2
          subst this
          have hq : ([⟨1, cells'⟩] : List Row)[t]? = some r := hq
          cases t with
          | zero => simp at hq; exact .inr (.inr ⟨rfl, rfl, hq.symm⟩)
          | succ t => simp at hq
  refine le_mk (st2 := ⟨env', [(0, [⟨1, c0⟩]), (1, rows), (2, [⟨1, cells'⟩])], 3⟩) (fun g t => if g = 2 then gq.map (·, t) else some (g, t)) henv (fun g t r h => ?_) ⟨by show κ.β0.length ≤ 3; omega, fun g t h => by rw [if_neg (by omega)]⟩ (fun g1 t1 r1 g2 t2 r2 p k1 k2 e1 e2 => ?_)
  · rcases hrow g t r h with ⟨rfl, rfl, rfl⟩ | ⟨rfl, hq⟩ | ⟨rfl, rfl, rfl⟩
    · exact ⟨by show 0 < 3; omega, .inr ⟨0, 0, _, rfl, h0, rfl, hc0 _ (fun t => rfl)⟩⟩
    · exact ⟨by show 1 < 3; omega, .inr ⟨1, t, _, rfl, (h1 t r hq).1, rfl, WkL.refl (h1 t r hq).2⟩⟩
    · refine ⟨by show 2 < 3; omega, ?_⟩
      rcases hO with ⟨rfl, rfl⟩ | ⟨gO, cells, rfl, _, hr, hc⟩
      · exact .inl ⟨rfl, rfl⟩
      · exact .inr ⟨gO, 0, _, rfl, hr, rfl, hc _ (fun t => rfl)⟩
  · have e1 : (if g1 = 2 then gq.map (·, t1) else some (g1, t1)) = some p := e1
    have e2 : (if g2 = 2 then gq.map (·, t2) else some (g2, t2)) = some p := e2
    have q1 := hrow g1 t1 r1 k1
    have q2 := hrow g2 t2 r2 k2
    rw [← e1] at e2
    rcases hO with ⟨rfl, _⟩ | ⟨gO, _, rfl, hg, _⟩ <;> rcases q1 with ⟨rfl, rfl, _⟩ | ⟨rfl, _⟩ | ⟨rfl, rfl, _⟩ <;> rcases q2 with ⟨rfl, rfl, _⟩ | ⟨rfl, _⟩ | ⟨rfl, rfl, _⟩ <;> (simp at e2 ⊢ <;> omega)
theorem wkl_refs1 {st : AS} {ρ : Rho} {nx o n : Nat} (h : ∀ t, ρ 1 t = some (1, t)) (hx : 1 < nx) : ∀ l : List Nat, WkL st ρ nx (l.map fun i => AV.ref 1 i 1 o n) (l.map fun i => AV.ref 1 i 1 o n)
  | [] => .nil
  | i :: l => .cons (.ref (h i) hx) (wkl_refs1 h hx l)
end Go.Proofs.YtlbhgejbfhhipaaGreatDoor

/- Walks: the rows of a matrix that begin with zeros, in normal form. -/
namespace Go.Proofs.YtlbhgejbfhhipaaGreatDoor
open Go Go.Am Go.Lib Go.Sp Z1 Z2 Z3 Z4 Z5 Z6
def selI (m : Nat) (F : List (List Int)) (x : Nat) : List Nat := (List.range x).filter fun i => zeroB m (F.getD i [])
theorem selI_succ (m : Nat) (F : List (List Int)) (x : Nat) : selI m F (x + 1) = selI m F x ++ (if zeroB m (F.getD x []) = true then [x] else []) := by
  unfold selI
  rw [List.range_succ, List.filter_append]
  congr 1
  rw [List.filter_cons, List.filter_nil]
theorem selI_map (m : Nat) (F : List (List Int)) : ∀ x, x ≤ F.length → (selI m F x).map (fun i => F.getD i []) = (F.take x).filter (zeroB m)
  | 0, _ => by simp [selI]
  | x + 1, h => by
    have hx : x < F.length := by omega
    have e : F.getD x [] = F[x] := by rw [List.getD_eq_getElem?_getD, List.getElem?_eq_getElem hx, Option.getD_some]
    rw [selI_succ, List.map_append, selI_map m F x (by omega), List.take_add_one, List.getElem?_eq_getElem hx, Option.toList_some, List.filter_append, List.filter_cons, List.filter_nil]
    congr 1
    by_cases hz : zeroB m F[x] = true
    · rw [if_pos (by rw [e]; exact hz), if_pos hz, List.map_cons, List.map_nil, e]
    · rw [if_neg (by rw [e]; exact hz), if_neg hz, List.map_nil]
theorem selI_lt {m : Nat} {F : List (List Int)} {x i : Nat} (h : i ∈ selI m F x) : i < x := by
  unfold selI at h
  exact List.mem_range.1 (List.mem_filter.1 h).1
theorem selI_zero {m : Nat} {F : List (List Int)} {x i : Nat} (h : i ∈ selI m F x) : zeroB m (F.getD i []) = true := by
  unfold selI at h
  exact (List.mem_filter.1 h).2
theorem selI_len (m : Nat) (F : List (List Int)) (x : Nat) : (selI m F x).length ≤ x := by
  unfold selI
  refine Nat.le_trans (List.length_filter_le _ _) (by rw [List.length_range]; exact Nat.le_refl _)
theorem selI_nodup (m : Nat) (F : List (List Int)) (x : Nat) : (selI m F x).Nodup := List.Pairwise.filter _ List.nodup_range
theorem zeroB_piv {n m : Nat} {F : List (List Int)} {P : List Nat} (hr : Rect n F) (h : HN P F) {i : Nat} (hi : i < F.length) : decide (pivL F[i] ≥ (m : Int)) = zeroB m F[i] := by
  rw [piv_row hr h hi]
  obtain ⟨_, _, i3, i4, _⟩ := h.idx
  have i3 := i3 i hi
  have i4 := i4 i hi
  have e : F.getD i [] = F[i] := by rw [List.getD_eq_getElem?_getD, List.getElem?_eq_getElem hi, Option.getD_some]
  unfold ent at i3 i4
  rw [e] at i3 i4
  unfold zeroB
  rw [decide_eq_decide]
  constructor
  · intro h j hj
    exact i3 j (by omega)
  · intro h
    rcases Nat.lt_or_ge (P.getD i 0) m with hlt | hge
    · have := h _ hlt
      omega
    · omega
theorem padZ_drop {m : Nat} {r : List Int} (hl : m ≤ r.length) (h : zeroB m r = true) : padZ m (r.drop m) = r := by
  have h := of_decide_eq_true h
  conv => rhs; rw [← List.take_append_drop m r]
  unfold padZ
  congr 1
  apply List.ext_getElem (by simp; omega)
  intro j h1 h2
  simp only [List.length_replicate] at h1
  have := h j h1
  rw [List.getD_eq_getElem?_getD, List.getElem?_eq_getElem (by omega), Option.getD_some] at this
  simp [this]
theorem behB_at {m n : Nat} {F : List (List Int)} (hF : Rect (m + n) F) {i : Nat} {r : Row} (h : (rowsO m (behB m F))[i]? = some r) : (rowsO 0 F)[(selI m F F.length).getD i 0]? = some r ∧ nrl r.cells := by
  have hl : (behB m F).length = (selI m F F.length).length := by
    unfold behB
    rw [List.length_map, ← List.take_length (l := F), ← selI_map m F F.length (Nat.le_refl _), List.length_map, List.take_length]
  have hi : i < (behB m F).length := by
    have := (List.getElem?_eq_some_iff.1 h).1
    rwa [rowsO_len] at this
  have hi' : i < (selI m F F.length).length := by omega
  refine ⟨?_, rowsO_nrl h⟩
  rw [rowsO_at hi] at h
  cases h
  have hs : (selI m F F.length).getD i 0 = (selI m F F.length)[i] := by rw [List.getD_eq_getElem?_getD, List.getElem?_eq_getElem hi', Option.getD_some]
  have hm := List.getElem_mem hi'
  have hlt := selI_lt hm
  have e : F.getD (selI m F F.length)[i] [] = F[(selI m F F.length)[i]] := by rw [List.getD_eq_getElem?_getD, List.getElem?_eq_getElem hlt, Option.getD_some]
  rw [hs, rowsO_at hlt, padZ_zero]
  have hz := selI_zero hm
  rw [e] at hz
  have hb : (behB m F)[i] = (F[(selI m F F.length)[i]]).drop m := by
    have h2 := selI_map m F F.length (Nat.le_refl _)
    rw [List.take_length] at h2
    unfold behB
    simp only [← h2, List.getElem_map]
    rw [e]
  rw [hb, padZ_drop (by rw [hF _ (List.getElem_mem hlt)]; omega) hz]
theorem behB_len (m : Nat) (F : List (List Int)) : (behB m F).length = (selI m F F.length).length := by
  unfold behB
  rw [List.length_map, ← List.take_length (l := F), ← selI_map m F F.length (Nat.le_refl _), List.length_map, List.take_length]
theorem behB_rect {m n : Nat} {F : List (List Int)} (hF : Rect (m + n) F) : Rect n (behB m F) := by
  intro r hr
  unfold behB at hr
  obtain ⟨s, hs, rfl⟩ := List.mem_map.1 hr
  have := hF s (List.mem_filter.1 hs).1
  rw [List.length_drop]; omega
theorem behB_bnd {m N : Nat} {F : List (List Int)} (hb : ∀ r ∈ F, ∀ j, (r.getD j 0).natAbs ≤ N) : Bnd (behB m F) N := by
  intro i j
  unfold ent
  rcases Nat.lt_or_ge i (behB m F).length with hi | hi
  · have e : (behB m F).getD i [] = (behB m F)[i] := by rw [List.getD_eq_getElem?_getD, List.getElem?_eq_getElem hi, Option.getD_some]
    rw [e]
    have hm := List.getElem_mem hi
    generalize (behB m F)[i] = r at hm
    unfold behB at hm
    obtain ⟨s, hs, rfl⟩ := List.mem_map.1 hm
    have := hb s (List.mem_filter.1 hs).1 (m + j)
    rw [List.getD_eq_getElem?_getD] at this ⊢
    rw [List.getElem?_drop]
    exact this
  · have e : (behB m F).getD i [] = [] := by rw [List.getD_eq_getElem?_getD, List.getElem?_eq_none hi, Option.getD_none]
    rw [e]
    simp
def seCells (m n : Nat) (l : List Nat) : List AV := l.map fun i => AV.ref 1 i 1 m n
theorem seCells_len (m n : Nat) (l : List Nat) : (seCells m n l).length = l.length := List.length_map _
theorem seCells_map (m n : Nat) (l : List Nat) : seCells m n l = (List.range l.length).map fun i => AV.ref 1 (l.getD i 0) 1 m n := by
  apply List.ext_getElem (by simp [seCells])
  intro j h1 h2
  simp only [seCells, List.length_map] at h1
  simp [seCells, List.getD_eq_getElem?_getD, h1]
set_option maxRecDepth 10000 in
theorem behind_ok (m n : Nat) (F : List (List Int)) {P : List Nat} (hF : Rect (m + n) F) (hP : HN P F) (hn : m + n ≤ 1000000) (hm : F.length ≤ 1000000) (N G : Nat) (hN : 4 ≤ N) (hb : ∀ r ∈ F, ∀ j, (r.getD j 0).natAbs ≤ N) (hNG : N ^ 16 ≤ G) (hG : okN (G * G + G)) :
    OkW (laiOf Tryz.prog) Tryz.prog 219 [.ref 0 0 1 0 F.length, .v (.int .i64 m), .v (.int .i64 n)] ⟨[], [(0, [⟨1, refsC 1 F.length 0 (m + n)⟩]), (1, rowsO 0 F)], 2⟩ (.ref 2 0 1 0 (behB m F).length) ⟨[], [(2, [⟨1, refsC 3 (behB m F).length m n⟩]), (3, rowsO m (behB m F))], 4⟩ := by
  have hfo := form_ok m n (behB m F) (behB_rect hF) (by omega) (by rw [behB_len]; have := selI_len m F F.length; omega) N G hN (behB_bnd hb) (.inr ⟨HNst.first hP.behB.choose_spec, hNG⟩) hG
  rw [formM_same (behB_rect hF) hP.behB.choose_spec] at hfo
  obtain ⟨R, hR⟩ : ∃ R, R = behB m F := ⟨_, rfl⟩
  have hfo : OkW (laiOf Tryz.prog) Tryz.prog 184 [.ref 0 0 1 0 (behB m F).length, .v (.int .i64 n)] ⟨[], [(0, [⟨1, refsC 1 (behB m F).length m n⟩]), (1, rowsO m (behB m F))], 2⟩ (.ref 2 0 1 0 R.length) ⟨[], [(2, [⟨1, refsC 3 R.length m n⟩]), (3, rowsO m R)], 4⟩ := by rw [hR]; exact hfo
  rw [show OkW (laiOf Tryz.prog) Tryz.prog 219 [.ref 0 0 1 0 F.length, .v (.int .i64 m), .v (.int .i64 n)] ⟨[], [(0, [⟨1, refsC 1 F.length 0 (m + n)⟩]), (1, rowsO 0 F)], 2⟩ (.ref 2 0 1 0 (behB m F).length) ⟨[], [(2, [⟨1, refsC 3 (behB m F).length m n⟩]), (3, rowsO m (behB m F))], 4⟩ = OkW (laiOf Tryz.prog) Tryz.prog 219 [.ref 0 0 1 0 F.length, .v (.int .i64 m), .v (.int .i64 n)] ⟨[], [(0, [⟨1, refsC 1 F.length 0 (m + n)⟩]), (1, rowsO 0 F)], 2⟩ (.ref 2 0 1 0 R.length) ⟨[], [(2, [⟨1, refsC 3 R.length m n⟩]), (3, rowsO m R)], 4⟩ by rw [hR]]
  refine okw_intro hT 30 Tryz.func219 rfl rfl rfl (Nat.le_of_ble_eq_true rfl) (Nat.le_add_right 2 2) ?_
  intro w0 F0 I β0 hβ
  have hβ2 : β0.length = 2 := hβ
  repeat (first|refine z2 ?_|refine z1 ?_|refine z3 ?_|refine z4 ?_|refine z5 ?_)
  refine awp_loop (fun x : { x : Nat // x ≤ F.length } => ⟨[(1, .v (.int .i64 m)), (2, .v (.int .i64 n)), (7, .ref 2 0 1 0 (selI m F x.1).length), (10, .ref 0 0 1 0 F.length), (11, .v (.int .i64 F.length)), (12, .v (.int .i64 x.1))], [(0, [⟨1, refsC 1 F.length 0 (m + n)⟩]), (1, rowsO 0 F), (2, [⟨1, seCells m n (selI m F x.1)⟩])], 3⟩) (fun x => F.length - x.1) ⟨0, Nat.zero_le _⟩ ?_ ?_
  · exact le_three none (by show β0.length ≤ 2; omega) rfl (fun ρ h => wkl_refs1 h (by omega) _) (fun t r h => ⟨h, rowsO_nrl h⟩) (.inl ⟨rfl, rfl⟩) ⟨⟨_, rfl, .refl trivial⟩, ⟨_, rfl, .refl trivial⟩, ⟨_, rfl, .nilref 1 rfl (by omega)⟩, ⟨_, rfl, .ref rfl (by omega)⟩, ⟨_, rfl, .refl trivial⟩, ⟨_, rfl, .refl trivial⟩, trivial⟩
  rintro ⟨j, hj⟩
  simp only at hj ⊢
  repeat (first|refine z2 ?_|refine z1 ?_|refine z3 ?_|refine z4 ?_|refine z5 ?_)
  refine awp_cond rfl (fun h => ?_) (fun h => ?_)
  · have hjl : j < F.length := by have := of_decide_eq_true h; omega
    clear h
    repeat (first|refine z2 ?_|refine z1 ?_|refine z3 ?_|refine z4 ?_|refine z5 ?_)
    refine al_pure hT rfl (pure_load_adr rfl rfl rfl rfl (refsC_at (j := j) (by omega) hjl)) rfl rfl True.intro ?_
    repeat (first|refine z2 ?_|refine z1 ?_|refine z3 ?_|refine z4 ?_|refine z5 ?_)
    have hlj := hF _ (List.getElem_mem hjl)
    have hld := lead_ok (Λ := laiOf Tryz.prog) F[j] (by omega)
    unfold zRow at hld
    rw [hlj] at hld
    have hrow := rowsO_at (o := 0) hjl
    rw [padZ_zero] at hrow
    refine al_call hld rfl rfl rfl rfl (.cons (.own (r := ⟨1, zsC F[j]⟩) hrow rfl (by show (0 + (m + n)) * 1 ≤ (zsC F[j]).length; rw [zsC_len]; omega) (by
      show SubL _ (((zsC F[j]).drop (0 * 1)).take ((m + n) * 1)) (zsC F[j])
      rw [Nat.zero_mul, List.drop_zero, Nat.mul_one, List.take_of_length_le (by rw [zsC_len]; omega)]
      exact SubL.refl (nrl_zsC _))) .nil) (.inl trivial) rfl rfl ?_
    repeat (first|refine z2 ?_|refine z1 ?_|refine z3 ?_|refine z4 ?_|refine z5 ?_)
    have e0 : F.getD j [] = F[j] := by rw [List.getD_eq_getElem?_getD, List.getElem?_eq_getElem hjl, Option.getD_some]
    have hzp := zeroB_piv (m := m) hF hP hjl
    have hs := selI_succ m F j
    rw [e0, ← hzp] at hs
    refine awp_cond rfl (fun h => ?_) (fun h => ?_)
    · rw [if_pos h] at hs
      have hpos : m < m + n := by
        have h1 := of_decide_eq_true h
        rw [piv_row hF hP hjl] at h1
        have := piv_lt hF hP hjl
        omega
      repeat (first|refine z2 ?_|refine z1 ?_|refine z3 ?_|refine z4 ?_|refine z5 ?_)
      refine al_litF hT rfl rfl rfl rfl rfl rfl rfl rfl rfl ?_
      refine al_append hT rfl rfl rfl rfl rfl rfl rfl rfl rfl rfl rfl rfl rfl (by show (seCells _ _ _).length = _ * 1; rw [seCells_len]; omega) (fun g r h e => by cases e; cases h; rfl) (by intro x hx; simp only [List.append_nil, List.mem_singleton] at hx; subst hx; rfl) (by show (_ + 1) * 24 ≤ _; have := selI_len m F j; omega) (by have := selI_len m F j; omega) ?_
      repeat (first|refine z2 ?_|refine z1 ?_|refine z3 ?_|refine z4 ?_|refine z5 ?_)
      refine ⟨⟨j + 1, hjl⟩, ?_, by show F.length - (j + 1) < F.length - j; omega⟩
      have e1 : 0 + (m : Int).toNat = m := by omega
      have e2 : (((m + n : Nat) : Int) - (m : Int)).toNat = n := by omega
      rw [hs]
      refine le_three (some 3) (by show β0.length ≤ 2; omega) rfl (fun ρ h => wkl_refs1 h (by omega) _) (fun t r h => ⟨h, rowsO_nrl h⟩) (.inr ⟨3, _, rfl, by omega, rfl, fun ρ h => ?_⟩) ⟨⟨_, rfl, .refl trivial⟩, ⟨_, rfl, .refl trivial⟩, ⟨.ref 3 0 1 0 ((selI m F j).length + 1), rfl, ?_⟩, ⟨_, rfl, .ref rfl (by omega)⟩, ⟨_, rfl, .refl trivial⟩, ⟨_, rfl, .refl trivial⟩, trivial⟩
      · unfold seCells
        rw [List.map_append]
        refine WkL.append (wkl_refs1 h (by omega) _) ?_
        show WkL _ _ _ [AV.ref 1 j 1 (0 + (m : Int).toNat) (((m + n : Nat) : Int) - (m : Int)).toNat] [AV.ref 1 j 1 m n]
        rw [e1, e2]
        exact .cons (.ref (h j) (by omega)) .nil
      · rw [List.length_append]
        exact .ref rfl (by omega)
    · rw [if_neg (by rw [h]; decide)] at hs
      repeat (first|refine z2 ?_|refine z1 ?_|refine z3 ?_|refine z4 ?_|refine z5 ?_)
      refine ⟨⟨j + 1, hjl⟩, ?_, by show F.length - (j + 1) < F.length - j; omega⟩
      rw [hs, List.append_nil]
      exact le_sub ⟨rfl, rfl, rfl, rfl, rfl, rfl, trivial⟩ rfl rfl
  · have hjl : j = F.length := by have := of_decide_eq_false h; omega
    subst hjl
    repeat (first|refine z2 ?_|refine z1 ?_|refine z3 ?_|refine z4 ?_|refine z5 ?_)
    have hbl := behB_len m F
    rw [hbl] at hfo
    have hnd := selI_nodup m F F.length
    have hlt := fun i => @selI_lt m F F.length i
    refine al_callw (rho2 2 1 0 1 fun i => (selI m F F.length).getD i 0) [(3, [⟨1, refsC 4 R.length m n⟩]), (4, rowsO m R)] 5 (.ref 3 0 1 0 R.length) hfo rfl rfl rfl rfl rfl (.cons (.ref rfl Nat.zero_lt_two) (.cons (.refl trivial) .nil)) (hand_two _ (by omega) ⟨by show 2 < 3; omega, by show 1 < 3; omega⟩ (cells := seCells m n (selI m F F.length)) rfl ?_ (fun i r h => behB_at hF h) ?_) rfl rfl rfl (back_two rfl rfl fun i r h => rowsO_hfl h) (.ref rfl (by omega)) ?_
    · rw [seCells_map]
      exact refs_map (m := 0) (by omega) Nat.one_lt_two _
    · intro i j hi hj e
      rw [rowsO_len, hbl] at hi hj
      rw [List.getD_eq_getElem?_getD, List.getD_eq_getElem?_getD, List.getElem?_eq_getElem hi, List.getElem?_eq_getElem hj, Option.getD_some, Option.getD_some] at e
      rcases Nat.lt_trichotomy i j with hl | hl | hl
      · exact absurd e (List.pairwise_iff_getElem.1 hnd i j hi hj hl)
      · exact hl
      · exact absurd e.symm (List.pairwise_iff_getElem.1 hnd j i hj hi hl)
    repeat (first|refine z2 ?_|refine z1 ?_|refine z3 ?_|refine z4 ?_|refine z5 ?_)
    refine awp_ret ⟨.inl rfl, ⟨[(6, .ref 2 0 1 0 R.length)], [(2, [⟨1, refsC 3 R.length m n⟩]), (3, rowsO m R)], 4⟩, ?_, rfl, rfl, rfl⟩
    exact le_two (ga := 3) (gb := 4) (fun i => i) (by omega) (by omega) ⟨by omega, by omega⟩ (by show β0.length ≤ 2 ∧ β0.length ≤ 3; omega) rfl (refs_map (m := 0) (π := fun i => i) (by omega) (by omega) _) (fun i r h => ⟨h, rowsO_nrl h⟩) (fun i j _ _ h => h) ⟨⟨_, rfl, .ref rfl (by omega)⟩, trivial⟩
end Go.Proofs.YtlbhgejbfhhipaaGreatDoor

/- Walks: the kernel of a matrix. -/
namespace Go.Proofs.YtlbhgejbfhhipaaGreatDoor
open Go Go.Am Go.Lib Go.Sp Z1 Z2 Z3 Z4 Z5 Z6
def wideT (M : List (List Int)) (n c : Nat) : List (List Int) := (List.range c).map (wideR M n)
theorem wideT_len (M : List (List Int)) (n c : Nat) : (wideT M n c).length = c := by simp [wideT]
theorem wideT_succ (M : List (List Int)) (n c : Nat) : rowsO 0 (wideT M n (c + 1)) = rowsO 0 (wideT M n c) ++ [⟨1, zsC (wideR M n c)⟩] := by
  unfold wideT rowsO
  rw [List.range_succ, List.map_append, List.map_append]
  simp only [List.map_cons, List.map_nil, padZ_zero]
def colC (M : List (List Int)) (c j : Nat) : List Int := (M.take j).map fun r => r.getD c 0
theorem colC_len (M : List (List Int)) (c j : Nat) (h : j ≤ M.length) : (colC M c j).length = j := by simp [colC]; omega
theorem colC_succ {M : List (List Int)} {c j n : Nat} (h : j < M.length) (hl : M[j].length = n) (hc : c < n) : zsC (colC M c j) ++ ([AV.v (.string (zS (M[j][c]'(by omega))))] ++ []) = zsC (colC M c (j + 1)) := by
  unfold colC
  rw [List.take_add_one, List.getElem?_eq_getElem h, List.map_append]
  simp [zsC, hl, hc]
theorem wide_bnd {M : List (List Int)} {n N : Nat} (hb : Bnd M N) (hN : 1 ≤ N) : Bnd (wideM M n) N := by
  intro i j
  unfold ent
  rcases Nat.lt_or_ge i n with hi | hi
  · have e : (wideM M n).getD i [] = wideR M n i := by
      unfold wideM
      rw [List.getD_eq_getElem?_getD, List.getElem?_map, List.getElem?_range hi]
      rfl
    rw [e]
    rcases Nat.lt_or_ge j M.length with hj | hj
    · have := wideR_lo (n := n) (c := i) hj
      unfold vec at this
      rw [this]
      exact hb j i
    · obtain ⟨k, rfl⟩ : ∃ k, j = M.length + k := ⟨j - M.length, by omega⟩
      have := wideR_hi (M := M) (n := n) (c := i) (j := k)
      unfold vec at this
      rw [this]
      split <;> simp <;> omega
  · have e : (wideM M n).getD i [] = [] := by
      rw [List.getD_eq_getElem?_getD, List.getElem?_eq_none (by simp [wideM]; omega)]
      rfl
    rw [e]
    simp
theorem zc_one {l : List Int} {i : Nat} {x : AV} (h : x ∈ setAll (zsC l) i [AV.v (.string ⟨#[49]⟩)]) : x.one = true := by
  rw [← zS_one, zsC_set] at h
  unfold zsC at h
  obtain ⟨z, _, rfl⟩ := List.mem_map.1 h
  rfl
set_option maxRecDepth 10000 in
theorem kernel_okw {n : Nat} (M : List (List Int)) (hM : Rect n M) (hn : n ≤ 100000) (hm : M.length ≤ 100000) (N G : Nat) (hN : 4 ≤ N) (hb : Bnd M N) (hNG : N ^ 16 ^ (n + 1) ≤ G) (hG : okN (G * G + G)) :
    OkW (laiOf Tryz.prog) Tryz.prog 175 [matZ n M, .v (.int .i64 n)] ⟨[], [], 0⟩ (.ref 0 0 1 0 (kernM n M).length) ⟨[], [(0, [⟨1, refsC 1 (kernM n M).length M.length n⟩]), (1, rowsO M.length (kernM n M))], 2⟩ := by
  have hN1 : N ^ 16 ^ n ≤ N ^ 16 ^ (n + 1) := Nat.pow_le_pow_right (by omega) (Nat.pow_le_pow_right (by omega) (by omega))
  have hWr := wide_rect M n
  have hWl : (wideM M n).length = n := by simp [wideM]
  have hfo := form_ok 0 (M.length + n) (wideM M n) hWr (by omega) (by omega) N G hN (wide_bnd hb (by omega)) (.inl (by rw [hWl]; exact Nat.le_trans hN1 hNG)) hG
  obtain ⟨⟨P, hP⟩, hFr, _⟩ := formM_ok hWr
  have hFb : Bnd (formM (M.length + n) (wideM M n)) (N ^ 16 ^ n) := by
    have := formL_bnd (n := M.length + n) (M.length + n) 0 N [] (wideM M n) (Nat.le_refl _) (ech0 hWr) hN (wide_bnd hb (by omega))
    rw [hWl, Nat.sub_zero] at this
    exact this
  have hK : kernM n M = behB M.length (formM (M.length + n) (wideM M n)) := formM_same (behB_rect hFr) hP.behB.choose_spec
  obtain ⟨F, hF⟩ : ∃ F, F = formM (M.length + n) (wideM M n) := ⟨_, rfl⟩
  rw [← hF] at hfo hP hFr hFb hK
  have hFl : F.length ≤ 200000 := by have := hP.rows_le hFr; omega
  have hbe := behind_ok M.length n F hFr hP (by omega) (by omega) (N ^ 16 ^ n) G (Nat.le_trans hN (Nat.le_self_pow (by have := Nat.pow_pos (n := n) (show 0 < 16 by omega); omega) _)) (fun r hr j => by
    obtain ⟨i, hi, rfl⟩ := List.getElem_of_mem hr
    have := hFb i j
    unfold ent at this
    have e : F.getD i [] = F[i] := by rw [List.getD_eq_getElem?_getD, List.getElem?_eq_getElem hi, Option.getD_some]
    rwa [e] at this) (by rw [← Nat.pow_mul, ← Nat.pow_succ]; exact hNG) hG
  rw [← hK] at hbe
  generalize kernM n M = K at hbe ⊢
  refine okw_intro hT 51 Tryz.func175 rfl rfl rfl (Nat.le_of_ble_eq_true rfl) (Nat.zero_le _) ?_
  intro w0 F0 I β0 hβ
  have hβ0 : β0 = [] := List.eq_nil_of_length_eq_zero hβ
  subst hβ0
  unfold matZ
  repeat (first|refine z2 ?_|refine z1 ?_|refine z3 ?_|refine z4 ?_|refine z5 ?_)
  refine awp_loop (fun x : { x : Nat // x ≤ n } => ⟨[(0, .sl 1 M.length (M.map fun r => .sl 1 n (zsC r))), (1, .v (.int .i64 n)), (5, .ref 0 0 1 0 x.1), (11, .v (.int .i64 n)), (12, .v (.int .i64 x.1))], [(0, [⟨1, refsC 1 x.1 0 (M.length + n)⟩]), (1, rowsO 0 (wideT M n x.1))], 2⟩) (fun x => n - x.1) ⟨0, Nat.zero_le _⟩ ?_ ?_
  · exact le_ren (fun _ _ => none) ⟨⟨_, rfl, .refl (nrl_matZ n M)⟩, ⟨_, rfl, .refl trivial⟩, ⟨_, rfl, .nilref 1 rfl Nat.zero_lt_two⟩, ⟨_, rfl, .refl trivial⟩, ⟨_, rfl, .refl trivial⟩, trivial⟩ ⟨⟨⟨Nat.zero_lt_two, .inl ⟨rfl, rfl⟩⟩, trivial⟩, trivial, trivial⟩ rfl (base_nil _ _)
  rintro ⟨c, hc⟩
  simp only at hc ⊢
  repeat (first|refine z2 ?_|refine z1 ?_|refine z3 ?_|refine z4 ?_|refine z5 ?_)
  refine awp_cond rfl (fun h => ?_) (fun h => ?_)
  · have hcn : c < n := by have := of_decide_eq_true h; omega
    clear h
    repeat (first|refine z2 ?_|refine z1 ?_|refine z3 ?_|refine z4 ?_|refine z5 ?_)
    refine awp_loop (fun x : { x : Nat // x ≤ M.length } => ⟨[(0, .sl 1 M.length (M.map fun r => .sl 1 n (zsC r))), (1, .v (.int .i64 n)), (5, .ref 0 0 1 0 c), (6, .v (.int .i64 c)), (7, .ref 2 0 1 0 x.1), (11, .v (.int .i64 n)), (12, .v (.int .i64 c)), (15, .sl 1 M.length (M.map fun r => .sl 1 n (zsC r))), (16, .v (.int .i64 M.length)), (17, .v (.int .i64 x.1))], [(0, [⟨1, refsC 1 c 0 (M.length + n)⟩]), (1, rowsO 0 (wideT M n c)), (2, [⟨1, zsC (colC M c x.1)⟩])], 3⟩) (fun x => M.length - x.1) ⟨0, Nat.zero_le _⟩ ?_ ?_
    · exact le_three none (by show 0 ≤ 2; omega) rfl (fun ρ h => wkl_refs1 h (by omega) _) (fun t r h => ⟨h, rowsO_nrl h⟩) (.inl ⟨rfl, rfl⟩) ⟨⟨_, rfl, .refl (nrl_matZ n M)⟩, ⟨_, rfl, .refl trivial⟩, ⟨_, rfl, .ref rfl (by omega)⟩, ⟨_, rfl, .refl trivial⟩, ⟨_, rfl, .nilref 1 rfl (by omega)⟩, ⟨_, rfl, .refl trivial⟩, ⟨_, rfl, .refl trivial⟩, ⟨_, rfl, .refl (nrl_matZ n M)⟩, ⟨_, rfl, .refl trivial⟩, ⟨_, rfl, .refl trivial⟩, trivial⟩
    · rintro ⟨j, hj⟩
      simp only at hj ⊢
      repeat (first|refine z2 ?_|refine z1 ?_|refine z3 ?_|refine z4 ?_|refine z5 ?_)
      refine awp_cond rfl (fun h => ?_) (fun h => ?_)
      · have hjl : j < M.length := by have := of_decide_eq_true h; omega
        clear h
        have hlj := hM _ (List.getElem_mem hjl)
        repeat (first|refine z2 ?_|refine z1 ?_|refine z3 ?_|refine z4 ?_|refine z5 ?_)
        refine al_pure hT rfl (pure_load_pt rfl rfl rfl (matZ_drop (by omega) hjl hM)) rfl rfl True.intro ?_
        unfold zRow
        repeat (first|refine z2 ?_|refine z1 ?_|refine z3 ?_|refine z4 ?_|refine z5 ?_)
        refine al_pure hT rfl (pure_load_pt rfl rfl rfl (zsC_drop (j := c) (by omega) (by omega))) rfl rfl True.intro ?_
        refine al_litF hT rfl rfl rfl rfl rfl rfl rfl rfl rfl ?_
        refine al_append hT rfl rfl rfl rfl rfl rfl rfl rfl rfl rfl rfl rfl rfl (by show (zsC _).length = _ * 1; rw [zsC_len, colC_len M c j hj]; omega) (fun g r h e => by cases e; cases h; rfl) (by intro x hx; simp only [List.append_nil, List.mem_singleton] at hx; subst hx; rfl) (by show (_ + 1) * 16 ≤ _; omega) (by omega) ?_
        repeat (first|refine z2 ?_|refine z1 ?_|refine z3 ?_|refine z4 ?_|refine z5 ?_)
        refine ⟨⟨j + 1, hjl⟩, ?_, by show M.length - (j + 1) < M.length - j; omega⟩
        refine le_three (some 3) (by show 0 ≤ 2; omega) rfl (fun ρ h => wkl_refs1 h (by omega) _) (fun t r h => ⟨h, rowsO_nrl h⟩) (.inr ⟨3, _, rfl, by omega, rfl, fun ρ h => wkl_eq (colC_succ hjl hlj hcn) (nrl_zsC _)⟩) ⟨⟨_, rfl, .refl (nrl_matZ n M)⟩, ⟨_, rfl, .refl trivial⟩, ⟨_, rfl, .ref rfl (by omega)⟩, ⟨_, rfl, .refl trivial⟩, ⟨.ref 3 0 1 0 (j + 1), rfl, .ref rfl (by omega)⟩, ⟨_, rfl, .refl trivial⟩, ⟨_, rfl, .refl trivial⟩, ⟨_, rfl, .refl (nrl_matZ n M)⟩, ⟨_, rfl, .refl trivial⟩, ⟨_, rfl, .refl trivial⟩, trivial⟩
      · have hjl : j = M.length := by have := of_decide_eq_false h; omega
        subst hjl
        clear h
        repeat (first|refine z2 ?_|refine z1 ?_|refine z3 ?_|refine z4 ?_|refine z5 ?_)
        refine al_callw (fun _ _ => none) [(3, [⟨1, zsC (List.replicate n 0)⟩]), (0, [⟨1, refsC 1 c 0 (M.length + n)⟩]), (1, rowsO 0 (wideT M n c)), (2, [⟨1, zsC (colC M c M.length)⟩])] 4 (.ref 3 0 1 0 n) (zeros_ok n (by omega)) rfl rfl rfl rfl rfl (.cons (.refl trivial) .nil) (hand_ren trivial rfl (fun g' _ _ _ h => absurd h (Nat.not_lt_zero _))) rfl rfl rfl (back_add rfl rfl (hfl_zsC _)) (.ref rfl (by omega)) ?_
        repeat (first|refine z2 ?_|refine z1 ?_|refine z3 ?_|refine z4 ?_|refine z5 ?_)
        refine al_store hT rfl rfl rfl rfl rfl rfl rfl rfl rfl (by show (0 * 1 + (c : Int).toNat * 1) + 1 ≤ (zsC (List.replicate n 0)).length; rw [zsC_len, List.length_replicate]; omega) (by intro x hx; simp only [List.mem_singleton] at hx; subst hx; rfl) ?_
        repeat (first|refine z2 ?_|refine z1 ?_|refine z3 ?_|refine z4 ?_|refine z5 ?_)
        refine al_append hT rfl rfl rfl rfl rfl rfl rfl rfl rfl rfl rfl rfl ⟨rfl, by show (0 + n) * 1 ≤ (setAll (zsC (List.replicate n 0)) _ _).length; simp only [setAll, List.length_set]; rw [zsC_len, List.length_replicate]; omega⟩ (by show (zsC _).length = _ * 1; rw [zsC_len, colC_len M c _ (Nat.le_refl _)]; omega) (fun g r h e => by cases e; cases h; rfl) (fun x hx => zc_one (List.mem_of_mem_drop (List.mem_of_mem_take hx))) (by show (_ + n) * 16 ≤ _; omega) (by omega) ?_
        refine al_litF hT rfl rfl rfl rfl rfl rfl rfl rfl rfl ?_
        refine al_append hT rfl rfl rfl rfl rfl rfl rfl rfl rfl rfl rfl rfl rfl (by show (refsC 1 c 0 (M.length + n)).length = _ * 1; rw [refsC_len, Nat.mul_one]) (fun g r h e => by cases e; cases h; rfl) (by intro x hx; simp only [List.append_nil, List.mem_singleton] at hx; subst hx; rfl) (by show (_ + 1) * 24 ≤ _; omega) (by omega) ?_
        repeat (first|refine z2 ?_|refine z1 ?_|refine z3 ?_|refine z4 ?_|refine z5 ?_)
        refine ⟨⟨c + 1, hcn⟩, ?_, by show n - (c + 1) < n - c; omega⟩
        simp only
        rw [wideT_succ]
        refine le_push (gO := 5) (gR := 4) (by rw [rowsO_len, wideT_len]) (by omega) (by omega) (by omega) rfl rfl ?_ (fun i _ => rfl) (fun i r h => rowsO_nrl h) (nrl_zsC _) ?_
        · show some (Row.mk 1 (zsC (colC M c M.length) ++ ((setAll (zsC (List.replicate n 0)) (0 * 1 + (c : Int).toNat * 1) [AV.v (.string ⟨#[49]⟩)]).drop (0 * 1)).take (n * 1))) = _
          rw [← zS_one, zsC_set, Nat.zero_mul, List.drop_zero, Nat.mul_one, List.take_of_length_le (by rw [zsC_len, List.length_set, List.length_replicate]; exact Nat.le_refl _), show 0 + (c : Int).toNat * 1 = c by omega]
          unfold wideR colC zsC
          rw [List.take_length, List.map_append]
        · exact ⟨⟨_, rfl, .refl (nrl_matZ n M)⟩, ⟨_, rfl, .refl trivial⟩, ⟨.ref 5 0 1 0 (c + 1), rfl, .ref rfl Nat.zero_lt_two⟩, ⟨_, rfl, .refl trivial⟩, ⟨_, rfl, .refl trivial⟩, trivial⟩
  · have hcn : c = n := by have := of_decide_eq_false h; omega
    clear h hc
    subst hcn
    repeat (first|refine z2 ?_|refine z1 ?_|refine z3 ?_|refine z4 ?_|refine z5 ?_)
    have e1 : rowsO 0 (wideT M c c) = rowsO 0 (wideM M c) := rfl
    rw [hWl] at hfo
    refine al_callw (rho2 0 1 0 1 fun i => i) [(2, [⟨1, refsC 3 F.length 0 (M.length + c)⟩]), (3, rowsO 0 F)] 4 (.ref 2 0 1 0 F.length) hfo rfl rfl rfl rfl rfl (.cons (.ref rfl Nat.zero_lt_two) (.cons (.refl trivial) .nil)) (hand_two _ (by omega) ⟨by show 0 < 2; omega, by show 1 < 2; omega⟩ (cells := refsC 1 c 0 (M.length + c)) rfl (refs_map (m := 0) (π := fun i => i) (by omega) Nat.one_lt_two _) (fun i r h => ⟨h, rowsO_nrl h⟩) (fun i j _ _ h => h)) rfl rfl rfl (back_two rfl rfl fun i r h => rowsO_hfl h) (.ref rfl (by omega)) ?_
    repeat (first|refine z2 ?_|refine z1 ?_|refine z3 ?_|refine z4 ?_|refine z5 ?_)
    refine al_callw (rho2 2 3 0 1 fun i => i) [(4, [⟨1, refsC 5 K.length M.length c⟩]), (5, rowsO M.length K)] 6 (.ref 4 0 1 0 K.length) hbe rfl rfl rfl rfl rfl (.cons (.ref rfl Nat.zero_lt_two) (.cons (.refl trivial) (.cons (.refl trivial) .nil))) (hand_two _ (by omega) ⟨by show 2 < 4; omega, by show 3 < 4; omega⟩ (cells := refsC 3 F.length 0 (M.length + c)) rfl (refs_map (m := 0) (π := fun i => i) (by omega) Nat.one_lt_two _) (fun i r h => ⟨h, rowsO_nrl h⟩) (fun i j _ _ h => h)) rfl rfl rfl (back_two rfl rfl fun i r h => rowsO_hfl h) (.ref rfl (by omega)) ?_
    repeat (first|refine z2 ?_|refine z1 ?_|refine z3 ?_|refine z4 ?_|refine z5 ?_)
    refine awp_ret ⟨.inl rfl, ⟨[(4, .ref 0 0 1 0 K.length)], [(0, [⟨1, refsC 1 K.length M.length c⟩]), (1, rowsO M.length K)], 2⟩, ?_, rfl, rfl, rfl⟩
    exact le_two (ga := 4) (gb := 5) (fun i => i) (by omega) (by omega) ⟨by omega, by omega⟩ ⟨Nat.zero_le _, Nat.zero_le _⟩ rfl (refs_map (m := 0) (π := fun i => i) (by omega) (by omega) _) (fun i r h => ⟨h, rowsO_nrl h⟩) (fun i j _ _ h => h) ⟨⟨_, rfl, .ref rfl (by omega)⟩, trivial⟩
end Go.Proofs.YtlbhgejbfhhipaaGreatDoor

/- Walks: the kernel of a small matrix; how great its numbers are; matrices handed back beside other rows. -/
namespace Go.Proofs.YtlbhgejbfhhipaaGreatDoor
open Go Go.Am Go.Lib Go.Sp Z1 Z2 Z3 Z4 Z5 Z6
theorem okN_pow {x e : Nat} (h : x ≤ 10 ^ e) (he : e ≤ 1000000000000) : okN (x * x + x) := by
  unfold okN
  refine Nat.le_trans ((numS_le (n := x * x + x) (k := 2 * e + 1) (by omega)).2 ?_) (by omega)
  have h1 : x * x ≤ 10 ^ e * 10 ^ e := Nat.mul_le_mul h h
  have h2 : 10 ^ (2 * e + 1) = 10 * (10 ^ e * 10 ^ e) := by rw [Nat.pow_succ, Nat.two_mul, Nat.pow_add]; omega
  have h3 : 10 ^ e ≤ 10 ^ e * 10 ^ e := Nat.le_mul_of_pos_left _ (Nat.pow_pos (by omega))
  have h4 : 0 < 10 ^ e := Nat.pow_pos (by omega)
  rw [h2]
  omega
theorem ten9 (a : Nat) : 1000000000 ^ a = 10 ^ (9 * a) := by rw [Nat.pow_mul]
theorem fits_bnd {M : List (List Int)} (h : fitsM M = true) : Bnd M 1000000000 := by
  intro i j
  unfold ent
  rcases Nat.lt_or_ge i M.length with hi | hi
  · have e : M.getD i [] = M[i] := by rw [List.getD_eq_getElem?_getD, List.getElem?_eq_getElem hi, Option.getD_some]
    rw [e]
    have h1 := List.all_eq_true.1 h _ (List.getElem_mem hi)
    rcases Nat.lt_or_ge j M[i].length with hj | hj
    · have e : M[i].getD j 0 = M[i][j] := by rw [List.getD_eq_getElem?_getD, List.getElem?_eq_getElem hj, Option.getD_some]
      rw [e]
      have h2 := of_decide_eq_true (List.all_eq_true.1 h1 _ (List.getElem_mem hj))
      omega
    · rw [List.getD_eq_getElem?_getD, List.getElem?_eq_none hj]; simp
  · have e : M.getD i [] = [] := by rw [List.getD_eq_getElem?_getD, List.getElem?_eq_none hi, Option.getD_none]
    rw [e]; simp
theorem bnd_okM {M : List (List Int)} {N : Nat} (hb : Bnd M N) (hN : okN N) : okM M := by
  intro r hr z hz
  obtain ⟨i, hi, rfl⟩ := List.getElem_of_mem hr
  obtain ⟨j, hj, rfl⟩ := List.getElem_of_mem hz
  have := hb i j
  rw [ent_get hi hj] at this
  exact okN_mono this hN
theorem kern_rect {n : Nat} (M : List (List Int)) : Rect n (kernM n M) := (kernM_ok (n := n) (M := M)).2.1
theorem kern_bnd {n N : Nat} {M : List (List Int)} (hb : Bnd M N) (hN : 4 ≤ N) : Bnd (kernM n M) (N ^ 16 ^ n) := by
  have hWr := wide_rect M n
  have hWl : (wideM M n).length = n := by simp [wideM]
  obtain ⟨⟨P, hP⟩, hFr, _⟩ := formM_ok hWr
  have hFb : Bnd (formM (M.length + n) (wideM M n)) (N ^ 16 ^ n) := by
    have := formL_bnd (n := M.length + n) (M.length + n) 0 N [] (wideM M n) (Nat.le_refl _) (ech0 hWr) hN (wide_bnd hb (by omega))
    rw [hWl, Nat.sub_zero] at this
    exact this
  have hK : kernM n M = behB M.length (formM (M.length + n) (wideM M n)) := formM_same (behB_rect hFr) hP.behB.choose_spec
  rw [hK]
  refine behB_bnd (fun r hr j => ?_)
  obtain ⟨i, hi, rfl⟩ := List.getElem_of_mem hr
  have := hFb i j
  unfold ent at this
  have e : (formM (M.length + n) (wideM M n)).getD i [] = (formM (M.length + n) (wideM M n))[i] := by rw [List.getD_eq_getElem?_getD, List.getElem?_eq_getElem hi, Option.getD_some]
  rwa [e] at this
theorem kern_len {n : Nat} (M : List (List Int)) : (kernM n M).length ≤ n := by
  obtain ⟨⟨P, hP⟩, hr, _⟩ := kernM_ok (n := n) (M := M)
  exact hP.rows_le hr
theorem kernel_ok {n N e : Nat} (M : List (List Int)) (hM : Rect n M) (hn : n ≤ 4) (hm : M.length ≤ 4) (hN : N = 10 ^ e) (he : 1 ≤ e) (hb : Bnd M N) (he2 : e * 1048576 ≤ 1000000000000) : OkP (laiOf Tryz.prog) Tryz.prog 175 [matZ n M, .v (.int .i64 n)] (matZ n (kernM n M)) := by
  have h4 : 4 ≤ N := by
    rw [hN]
    have := Nat.pow_le_pow_right (n := 10) (by omega) he
    omega
  refine okp_of_okw (kernel_okw M hM (by omega) (by omega) N (N ^ 16 ^ (n + 1)) h4 hb (Nat.le_refl _) (okN_pow (e := e * 1048576) ?_ he2)) (fz_mat (kern_rect M) rfl (fun _ => rfl)) (nr_matZ n _)
  rw [hN, ← Nat.pow_mul]
  refine Nat.pow_le_pow_right (by omega) (Nat.mul_le_mul_left _ ?_)
  exact Nat.le_trans (Nat.pow_le_pow_right (by omega) (show n + 1 ≤ 5 by omega)) (by decide)
theorem sub_matZ {s : AS} {gO gR o n : Nat} {M : List (List Int)} (hM : Rect n M) (hO : s.row gO 0 = some ⟨1, refsC gR M.length o n⟩) (hR : ∀ i, s.row gR i = (rowsO o M)[i]?) : Sub s (.ref gO 0 1 0 M.length) (matZ n M) := by
  refine .own hO rfl (by show (0 + M.length) * 1 ≤ (refsC gR M.length o n).length; rw [refsC_len]; omega) ?_
  show SubL s (((refsC gR M.length o n).drop (0 * 1)).take (M.length * 1)) (M.map fun r => AV.sl 1 n (zsC r))
  rw [Nat.zero_mul, List.drop_zero, Nat.mul_one, List.take_of_length_le (by rw [refsC_len]; exact Nat.le_refl _)]
  have key : ∀ (k : Nat), k ≤ M.length → SubL s ((List.range' (M.length - k) k).map fun i => AV.ref gR i 1 o n) ((M.drop (M.length - k)).map fun r => AV.sl 1 n (zsC r)) := by
    intro k
    induction k with
    | zero => intro _; rw [Nat.sub_zero, List.drop_length]; exact .nil
    | succ k ih =>
      intro hk
      have hi : M.length - (k + 1) < M.length := by omega
      rw [List.drop_eq_getElem_cons hi, List.range'_succ, List.map_cons, List.map_cons, show M.length - (k + 1) + 1 = M.length - k by omega]
      refine .cons ?_ (ih (by omega))
      have hl := hM _ (List.getElem_mem hi)
      refine .own (by rw [hR, rowsO_at hi]) rfl (by show (o + n) * 1 ≤ (zsC (padZ o _)).length; rw [zsC_len, padZ_len]; omega) ?_
      show SubL s (((zsC (padZ o M[M.length - (k + 1)])).drop (o * 1)).take (n * 1)) (zsC M[M.length - (k + 1)])
      rw [zs_drop o n _ hl]
      exact SubL.refl (nrl_zsC _)
  have := key M.length (Nat.le_refl _)
  rw [Nat.sub_self, List.drop_zero, ← List.range_eq_range'] at this
  exact this
theorem rnl_refs' {τ : Tau} {a k m o n nx : Nat} (h : ∀ t, τ a t = some (k, t)) (hk : k < nx) : RnL τ nx (refsC a m o n) (refsC k m o n) := by
  unfold refsC
  induction (List.range m) with
  | nil => exact .nil
  | cons i l ih => exact .cons (.ref (h i) hk) ih
/-- A matrix is handed back, in fresh groups; some rows stay. -/
theorem back_gen {st s0 : AS} {ρ : Rho} {e : List (Nat × AV)} {a k m o n nx1 : Nat} {rows : List Row} {tail : List (Nat × List Row)} (h2 : ∀ t, tauOf ρ s0.nx st.nx a t = some (k, t)) (h3 : ∀ t, tauOf ρ s0.nx st.nx (a + 1) t = some (k + 1, t)) (hf : ∀ (i : Nat) (r : Row), rows[i]? = some r → hfl r.cells)
    (ht : ∀ g t r, (⟨e, tail, 0⟩ : AS).row g t = some r → st.row g t = some r ∧ ∀ g' t' r', s0.row g' t' = some r' → ρ g' t' ≠ some (g, t)) :
    Back st ρ s0 ⟨[], [(a, [⟨1, refsC (a + 1) m o n⟩]), (a + 1, rows)], nx1⟩ ⟨e, (k, [⟨1, refsC (k + 1) m o n⟩]) :: (k + 1, rows) :: tail, k + 2⟩ := by
  intro g t r hr
  rcases row_cons hr with ⟨rfl, hq⟩ | ⟨hne, hq⟩
  · cases t with
    | zero =>
      simp only [List.getElem?_cons_zero, Option.some.injEq] at hq
      subst hq
      refine .inl ⟨a, 0, ⟨1, refsC (a + 1) m o n⟩, ?_, h2 0, by show g < g + 2; omega, rfl, rnl_refs' h3 (by show g + 1 < g + 2; omega)⟩
      unfold AS.row
      simp only [Am.look, Nat.beq_refl, cond_true]
      rfl
    | succ t => simp at hq
  · rcases row_cons (e := e) (nx := 0) (show (⟨e, (k + 1, rows) :: tail, 0⟩ : AS).row g t = some r from hq) with ⟨rfl, hq2⟩ | ⟨_, hq2⟩
    · refine .inl ⟨a + 1, t, r, ?_, h3 t, by show k + 1 < k + 2; omega, rfl, RnL.refl (hf t r hq2)⟩
      unfold AS.row
      simp only [Am.look]
      have e1 : Nat.beq a (a + 1) = false := by
        cases h : Nat.beq a (a + 1) with
        | true => have := Nat.eq_of_beq_eq_true h; omega
        | false => rfl
      rw [e1, show Nat.beq (a + 1) (a + 1) = true from Nat.beq_refl _]
      exact hq2
    · exact .inr (ht g t r hq2)
end Go.Proofs.YtlbhgejbfhhipaaGreatDoor

/- Walks: lattices made, saturated, annihilated. -/
namespace Go.Proofs.YtlbhgejbfhhipaaGreatDoor
open Go Go.Am Go.Lib Go.Sp Z1 Z2 Z3 Z4 Z5 Z6
set_option maxRecDepth 10000 in
theorem lof_ok {n : Nat} (M : List (List Int)) (hc : latChk n M = 0) (hM : Rect n M) (hf : fitsM M = true) (hn : n ≤ 4) (hm : M.length ≤ 4) : OkP (laiOf Tryz.prog) Tryz.prog 148 [.v (.int .i64 n), matS M] (lshR n (formM n M)) := by
  have hb := fits_bnd hf
  have hs : smallM M := fun r hr z hz => by
    have := of_decide_eq_true (List.all_eq_true.1 (List.all_eq_true.1 hf r hr) z hz)
    omega
  have hchk := latchk_ok (Λ := laiOf Tryz.prog) (n : Int) M (by omega) (fun r hr => by rw [hM r hr]; omega)
  rw [hc] at hchk
  have hlo := longsof_ok M hM hs (by omega) (by omega)
  obtain ⟨e, he⟩ : ∃ e, e = 16 ^ 4 := ⟨_, rfl⟩
  have he2 : e = 65536 := by rw [he]
  have hG : okN (1000000000 ^ e * 1000000000 ^ e + 1000000000 ^ e) := okN_pow (e := 9 * e) (by rw [ten9]; exact Nat.le_refl _) (by omega)
  have h1 : 1000000000 ^ 16 ^ M.length ≤ 1000000000 ^ e := Nat.pow_le_pow_right (by omega) (by rw [he]; exact Nat.pow_le_pow_right (by omega) hm)
  have hfo := form_ok 0 n M hM (by omega) (by omega) 1000000000 (1000000000 ^ e) (by omega) hb (.inl h1) hG
  obtain ⟨⟨P, hP⟩, hFr, _⟩ := formM_ok hM
  have hFl := hP.rows_le hFr
  have hFb : Bnd (formM n M) (1000000000 ^ 16 ^ M.length) := by
    have := formL_bnd (n := n) n 0 1000000000 [] M (Nat.le_refl _) (ech0 hM) (by omega) hb
    rw [Nat.sub_zero] at this
    exact this
  have hok := bnd_okM hFb (okN_mono (Nat.le_trans h1 (Nat.le_add_left _ _)) hG)
  generalize formM n M = R at hfo hFr hFl hok ⊢
  generalize 1000000000 ^ e = G at hG h1
  have hsh := lshort_ok (n := n) (c := n) R hFr hok (by omega) (by omega)
  refine okp_intro hT 22 Tryz.func148 rfl rfl rfl (Nat.le_of_ble_eq_true rfl) (by unfold lshR; split <;> first | exact ⟨nr_latS n R, trivial, trivial⟩ | exact ⟨⟨trivial, trivial, trivial⟩, trivial, trivial⟩) ?_
  intro w0 F0 I
  repeat (first|refine z2 ?_|refine z1 ?_|refine z3 ?_|refine z4 ?_|refine z5 ?_)
  refine al_call hchk rfl rfl rfl rfl (.cons (.refl trivial) (.cons (.refl (nr_matS M)) .nil)) (.inl trivial) rfl rfl ?_
  repeat (first|refine z2 ?_|refine z1 ?_|refine z3 ?_|refine z4 ?_|refine z5 ?_)
  refine awp_cond rfl (fun h => absurd h (by decide)) (fun _ => ?_)
  repeat (first|refine z2 ?_|refine z1 ?_|refine z3 ?_|refine z4 ?_|refine z5 ?_)
  refine al_callw (fun _ _ => none) [(1, [⟨1, refsC 2 M.length 0 n⟩]), (2, rowsO 0 M), (0, [⟨2, [.v (.int .i64 0), .v (.slice none 0 0)]⟩])] 3 (.ref 1 0 1 0 M.length) hlo rfl rfl rfl rfl rfl (.cons (.refl (nr_matS M)) .nil) (hand_ren trivial rfl (fun g' _ _ _ h => absurd h (Nat.not_lt_zero _))) rfl rfl rfl (back_gen (a := 0) (k := 1) (fun t => rfl) (fun t => rfl) (fun i r h => rowsO_hfl h) ?_) (.ref rfl (by omega)) ?_
  · intro g t r h
    exact ⟨h, fun g' t' r' _ h => by cases h⟩
  repeat (first|refine z2 ?_|refine z1 ?_|refine z3 ?_|refine z4 ?_|refine z5 ?_)
  refine al_callw (rho2 1 2 0 1 fun i => i) [(3, [⟨1, refsC 4 R.length 0 n⟩]), (4, rowsO 0 R), (0, [⟨2, [.v (.int .i64 0), .v (.slice none 0 0)]⟩])] 5 (.ref 3 0 1 0 R.length) hfo rfl rfl rfl rfl rfl (.cons (.ref rfl Nat.zero_lt_two) (.cons (.refl trivial) .nil)) (hand_two _ (by omega) ⟨by show 1 < 3; omega, by show 2 < 3; omega⟩ (cells := refsC 2 M.length 0 n) rfl (refs_map (m := 0) (π := fun i => i) (by omega) Nat.one_lt_two _) (fun i r h => ⟨h, rowsO_nrl h⟩) (fun i j _ _ h => h)) rfl rfl rfl (back_gen (a := 2) (k := 3) (fun t => rfl) (fun t => rfl) (fun i r h => rowsO_hfl h) ?_) (.ref rfl (by omega)) ?_
  · intro g t r h
    rcases row_cons h with ⟨rfl, hq⟩ | ⟨_, hq⟩
    · refine ⟨h, fun g' t' r' h' e => ?_⟩
      rcases row_pair h' with ⟨rfl, _⟩ | ⟨rfl, _⟩
      · cases e
      · cases e
    · cases hq
  repeat (first|refine z2 ?_|refine z1 ?_|refine z3 ?_|refine z4 ?_|refine z5 ?_)
  unfold lshR at hsh ⊢
  by_cases hft : fitsM R = true
  · rw [if_pos hft] at hsh ⊢
    refine al_callz (fun g => Nat.beq g 0) hsh rfl rfl rfl rfl rfl (.cons (sub_matZ hFr rfl (fun _ => rfl)) (.cons (.refl trivial) .nil)) rfl rfl ?_
    repeat (first|refine z2 ?_|refine z1 ?_|refine z3 ?_|refine z4 ?_|refine z5 ?_)
    exact awp_ret ⟨.inl rfl, ret_tup rfl (.cons (.refl (nr_latS n R)) (.cons (.refl trivial) .nil))⟩
  · rw [if_neg hft] at hsh ⊢
    refine al_callz (fun g => Nat.beq g 0) hsh rfl rfl rfl rfl rfl (.cons (sub_matZ hFr rfl (fun _ => rfl)) (.cons (.refl trivial) .nil)) rfl rfl ?_
    repeat (first|refine z2 ?_|refine z1 ?_|refine z3 ?_|refine z4 ?_|refine z5 ?_)
    exact awp_ret ⟨.inl rfl, ret_tup rfl (.cons (.refl ⟨trivial, trivial, trivial⟩) (.cons (.refl trivial) .nil))⟩
theorem pow16 {n e : Nat} (hn : n ≤ 4) (he : e = 16 ^ 4) : 16 ^ n ≤ e := by rw [he]; exact Nat.pow_le_pow_right (by omega) hn
theorem kern9_ok {n : Nat} (M : List (List Int)) (hM : Rect n M) (hn : n ≤ 4) (hm : M.length ≤ 4) (hf : fitsM M = true) : OkP (laiOf Tryz.prog) Tryz.prog 175 [matZ n M, .v (.int .i64 n)] (matZ n (kernM n M)) :=
  kernel_ok (e := 9) M hM hn hm rfl (by omega) (fits_bnd hf) (by omega)
theorem kern99_ok {n : Nat} (M : List (List Int)) (hn : n ≤ 4) (hf : fitsM M = true) : OkP (laiOf Tryz.prog) Tryz.prog 175 [matZ n (kernM n M), .v (.int .i64 n)] (matZ n (kernM n (kernM n M))) := by
  have hb := kern_bnd (n := n) (fits_bnd hf) (by omega)
  rw [ten9] at hb
  obtain ⟨e, he⟩ : ∃ e, e = 16 ^ 4 := ⟨_, rfl⟩
  have he2 : e = 65536 := by rw [he]
  have h1 := pow16 hn he
  have h0 : 0 < 16 ^ n := Nat.pow_pos (by omega)
  exact kernel_ok (e := 9 * 16 ^ n) _ (kern_rect M) hn (Nat.le_trans (kern_len M) hn) rfl (by omega) hb (by omega)
theorem kern_okM {n : Nat} (M : List (List Int)) (hn : n ≤ 4) (hf : fitsM M = true) : okM (kernM n M) ∧ okM (kernM n (kernM n M)) := by
  have hb := kern_bnd (n := n) (fits_bnd hf) (by omega)
  have h4 : 4 ≤ 1000000000 ^ 16 ^ n := Nat.le_trans (by omega) (Nat.le_self_pow (by have := Nat.pow_pos (n := n) (show 0 < 16 by omega); omega) _)
  have hb2 := kern_bnd (n := n) hb h4
  obtain ⟨e, he⟩ : ∃ e, e = 16 ^ 4 := ⟨_, rfl⟩
  have he2 : e = 65536 := by rw [he]
  have h1 := pow16 hn he
  rw [ten9] at hb hb2
  rw [← Nat.pow_mul] at hb2
  have h2 : 16 ^ n * 16 ^ n ≤ e * e := Nat.mul_le_mul h1 h1
  refine ⟨bnd_okM hb ?_, bnd_okM hb2 ?_⟩
  · exact okN_mono (Nat.le_add_left _ _) (okN_pow (e := 9 * 16 ^ n) (Nat.le_refl _) (by omega))
  · refine okN_mono (Nat.le_add_left _ _) (okN_pow (e := 9 * 16 ^ n * 16 ^ n) (Nat.le_refl _) ?_)
    rw [Nat.mul_assoc]
    subst he2
    omega
theorem nr_lsh (n : Nat) (K : List (List Int)) : nr (lshR n K) := by unfold lshR; split <;> first | exact ⟨nr_latS n K, trivial, trivial⟩ | exact ⟨⟨trivial, trivial, trivial⟩, trivial, trivial⟩
set_option maxRecDepth 10000 in
theorem ann_ok {n : Nat} {L : List (List Int)} {P : List Nat} (hF : Few n L) (hP : HN P L) (hn : n ≤ 4) (hft : fitsM L = true) : OkP (laiOf Tryz.prog) Tryz.prog 137 [latS n L] (lshR n (kernM n L)) := by
  have hl := hP.rows_le hF.rect
  have hsm : smallM L := fun r hr z hz => by
    have := of_decide_eq_true (List.all_eq_true.1 (List.all_eq_true.1 hft r hr) z hz)
    omega
  have hlo := longsof_okp L hF.rect hsm (by omega) (by omega)
  have hke := kern9_ok L hF.rect hn (by omega) hft
  have hkl := kern_len (n := n) L
  have hsh := lshort_ok (n := n) (c := n) (kernM n L) (kern_rect L) (kern_okM L hn hft).1 (by omega) (by omega)
  have hnz := nr_matZ n L
  have hnk := nr_matZ n (kernM n L)
  have hck := latcheck_ok (Λ := laiOf Tryz.prog) hF hP
  have hnl := nr_latS n L
  have hnL := nr_matS L
  generalize kernM n L = K at hke hkl hsh hnk ⊢
  refine okp_intro hT 22 Tryz.func137 rfl rfl rfl (Nat.le_of_ble_eq_true rfl) (nr_lsh n K) ?_
  intro w0 F0 I
  repeat (first|refine z2 ?_|refine z1 ?_|refine z3 ?_|refine z4 ?_|refine z5 ?_)
  refine al_call hck rfl rfl rfl rfl (.cons (.refl (x := latS n L) hnl) .nil) (.inl trivial) rfl rfl ?_
  repeat (first|refine z2 ?_|refine z1 ?_|refine z3 ?_|refine z4 ?_|refine z5 ?_)
  refine awp_cond rfl (fun h => absurd h (by decide)) (fun _ => ?_)
  (repeat (first | refine awp_seq ?_ | refine awp_block ?_ | refine awp_skip ?_))
  refine awp_region_draw [] hmix (by kernel_rfl) ?_
  repeat (first|refine z2 ?_|refine z1 ?_|refine z3 ?_|refine z4 ?_|refine z5 ?_)
  refine al_call hlo rfl rfl rfl rfl (.cons (.refl hnL) .nil) (.inr ⟨⟨hnL, trivial⟩, rfl⟩) rfl rfl ?_
  repeat (first|refine z2 ?_|refine z1 ?_|refine z3 ?_|refine z4 ?_|refine z5 ?_)
  refine al_call hke rfl rfl rfl rfl (.cons (.refl hnz) (.cons (.refl trivial) .nil)) (.inr ⟨⟨hnz, trivial, trivial⟩, rfl⟩) rfl rfl ?_
  repeat (first|refine z2 ?_|refine z1 ?_|refine z3 ?_|refine z4 ?_|refine z5 ?_)
  unfold lshR at hsh ⊢
  by_cases hf2 : fitsM K = true
  · rw [if_pos hf2] at hsh ⊢
    refine al_call hsh rfl rfl rfl rfl (.cons (.refl hnk) (.cons (.refl trivial) .nil)) (.inr ⟨⟨hnk, trivial, trivial⟩, rfl⟩) rfl rfl ?_
    repeat (first|refine z2 ?_|refine z1 ?_|refine z3 ?_|refine z4 ?_|refine z5 ?_)
    exact awp_ret ⟨.inl rfl, ret_tup rfl (.cons (.refl (nr_latS n K)) (.cons (.refl trivial) .nil))⟩
  · rw [if_neg hf2] at hsh ⊢
    refine al_call hsh rfl rfl rfl rfl (.cons (.refl hnk) (.cons (.refl trivial) .nil)) (.inr ⟨⟨hnk, trivial, trivial⟩, rfl⟩) rfl rfl ?_
    repeat (first|refine z2 ?_|refine z1 ?_|refine z3 ?_|refine z4 ?_|refine z5 ?_)
    exact awp_ret ⟨.inl rfl, ret_tup rfl (.cons (.refl ⟨trivial, trivial, trivial⟩) (.cons (.refl trivial) .nil))⟩
set_option maxRecDepth 10000 in
theorem sat_ok {n : Nat} {L : List (List Int)} {P : List Nat} (hF : Few n L) (hP : HN P L) (hn : n ≤ 4) (hft : fitsM L = true) : OkP (laiOf Tryz.prog) Tryz.prog 135 [latS n L] (lshR n (kernM n (kernM n L))) := by
  have hl := hP.rows_le hF.rect
  have hsm : smallM L := fun r hr z hz => by
    have := of_decide_eq_true (List.all_eq_true.1 (List.all_eq_true.1 hft r hr) z hz)
    omega
  have hlo := longsof_okp L hF.rect hsm (by omega) (by omega)
  have hke := kern9_ok L hF.rect hn (by omega) hft
  have hke2 := kern99_ok L hn hft
  have hkl := kern_len (n := n) (kernM n L)
  have hsh := lshort_ok (n := n) (c := n) (kernM n (kernM n L)) (kern_rect _) (kern_okM L hn hft).2 (by omega) (by omega)
  have hnz := nr_matZ n L
  have hnk1 := nr_matZ n (kernM n L)
  have hnk := nr_matZ n (kernM n (kernM n L))
  have hck := latcheck_ok (Λ := laiOf Tryz.prog) hF hP
  have hnl := nr_latS n L
  have hnL := nr_matS L
  generalize kernM n (kernM n L) = K at hke2 hkl hsh hnk ⊢
  generalize kernM n L = K1 at hke hke2 hnk1
  refine okp_intro hT 25 Tryz.func135 rfl rfl rfl (Nat.le_of_ble_eq_true rfl) (nr_lsh n K) ?_
  intro w0 F0 I
  repeat (first|refine z2 ?_|refine z1 ?_|refine z3 ?_|refine z4 ?_|refine z5 ?_)
  refine al_call hck rfl rfl rfl rfl (.cons (.refl (x := latS n L) hnl) .nil) (.inl trivial) rfl rfl ?_
  repeat (first|refine z2 ?_|refine z1 ?_|refine z3 ?_|refine z4 ?_|refine z5 ?_)
  refine awp_cond rfl (fun h => absurd h (by decide)) (fun _ => ?_)
  (repeat (first | refine awp_seq ?_ | refine awp_block ?_ | refine awp_skip ?_))
  refine awp_region_draw [] hmix (by kernel_rfl) ?_
  repeat (first|refine z2 ?_|refine z1 ?_|refine z3 ?_|refine z4 ?_|refine z5 ?_)
  refine al_call hlo rfl rfl rfl rfl (.cons (.refl hnL) .nil) (.inr ⟨⟨hnL, trivial⟩, rfl⟩) rfl rfl ?_
  repeat (first|refine z2 ?_|refine z1 ?_|refine z3 ?_|refine z4 ?_|refine z5 ?_)
  refine al_call hke rfl rfl rfl rfl (.cons (.refl hnz) (.cons (.refl trivial) .nil)) (.inr ⟨⟨hnz, trivial, trivial⟩, rfl⟩) rfl rfl ?_
  repeat (first|refine z2 ?_|refine z1 ?_|refine z3 ?_|refine z4 ?_|refine z5 ?_)
  refine al_call hke2 rfl rfl rfl rfl (.cons (.refl hnk1) (.cons (.refl trivial) .nil)) (.inr ⟨⟨hnk1, trivial, trivial⟩, rfl⟩) rfl rfl ?_
  repeat (first|refine z2 ?_|refine z1 ?_|refine z3 ?_|refine z4 ?_|refine z5 ?_)
  unfold lshR at hsh ⊢
  by_cases hf2 : fitsM K = true
  · rw [if_pos hf2] at hsh ⊢
    refine al_call hsh rfl rfl rfl rfl (.cons (.refl hnk) (.cons (.refl trivial) .nil)) (.inr ⟨⟨hnk, trivial, trivial⟩, rfl⟩) rfl rfl ?_
    repeat (first|refine z2 ?_|refine z1 ?_|refine z3 ?_|refine z4 ?_|refine z5 ?_)
    exact awp_ret ⟨.inl rfl, ret_tup rfl (.cons (.refl (nr_latS n K)) (.cons (.refl trivial) .nil))⟩
  · rw [if_neg hf2] at hsh ⊢
    refine al_call hsh rfl rfl rfl rfl (.cons (.refl hnk) (.cons (.refl trivial) .nil)) (.inr ⟨⟨hnk, trivial, trivial⟩, rfl⟩) rfl rfl ?_
    repeat (first|refine z2 ?_|refine z1 ?_|refine z3 ?_|refine z4 ?_|refine z5 ?_)
    exact awp_ret ⟨.inl rfl, ret_tup rfl (.cons (.refl ⟨trivial, trivial, trivial⟩) (.cons (.refl trivial) .nil))⟩
end Go.Proofs.YtlbhgejbfhhipaaGreatDoor

/- Walks: temperaments checked. -/
namespace Go.Proofs.YtlbhgejbfhhipaaGreatDoor
open Go Go.Am Go.Lib Go.Sp Z1 Z2 Z3 Z4 Z5 Z6
def tmpS (p : List Int) (C Mp : List (List Int)) : AV := .agg [rowS p, matS C, matS Mp]
theorem nr_tmpS (p : List Int) (C Mp : List (List Int)) : nr (tmpS p C Mp) := ⟨nr_rowS p, nr_matS C, nr_matS Mp, trivial⟩
/-- What makes a temperament right. -/
structure TmpOK (p : List Int) (C Mp : List (List Int)) : Prop where
  prime : primeChk p = 0
  small : small64L p
  len : p.length ≤ 4
  hn : ∃ P, HN P C
  few : Few p.length C
  fits : fitsM C = true
  sat : kernM p.length (kernM p.length C) = C
  fits2 : fitsM (kernM p.length C) = true
  short : shortM Mp
theorem few_short {n : Nat} {M : List (List Int)} (h : Few n M) : shortM M := ⟨by have := h.rows; omega, fun r hr => by have := h.len hr; omega⟩
theorem kern_few {n : Nat} (M : List (List Int)) (hn : n ≤ 4) (hf : fitsM (kernM n M) = true) : Few n (kernM n M) :=
  ⟨by omega, by have := kern_len (n := n) M; omega, kern_rect M, fun r hr x hx => List.all_eq_true.1 (List.all_eq_true.1 hf r hr) x hx⟩
set_option maxRecDepth 10000 in
theorem tchk_ok {p : List Int} {C Mp : List (List Int)} (h : TmpOK p C Mp) : OkP (laiOf Tryz.prog) Tryz.prog 88 [tmpS p C Mp] (.v (.int .i64 (if kernM p.length C = Mp then 0 else 14))) := by
  have hc := primechk_ok (Λ := laiOf Tryz.prog) p h.small (by have := h.len; omega)
  rw [h.prime] at hc
  obtain ⟨P, hP⟩ := h.hn
  have hl := h.len
  have hck := latcheck_ok (Λ := laiOf Tryz.prog) h.few hP
  have hsa := sat_ok h.few hP hl h.fits
  have han := ann_ok h.few hP hl h.fits
  have hkf := kern_few C hl h.fits2
  rw [h.sat] at hsa
  unfold lshR at hsa han
  rw [if_pos h.fits] at hsa
  rw [if_pos h.fits2] at han
  have heq := lateq_ok (Λ := laiOf Tryz.prog) p.length C C (few_short h.few) (few_short h.few)
  rw [decide_eq_true rfl] at heq
  have hsm := same_ok (Λ := laiOf Tryz.prog) (kernM p.length C) Mp (few_short hkf) h.short
  have hnp := nr_rowS p
  have hnl := nr_latS p.length C
  have hnk := nr_latS p.length (kernM p.length C)
  have hnc := nr_matS C
  have hnm := nr_matS Mp
  generalize kernM p.length C = K at han hsm hnk ⊢
  have hnk2 := nr_matS K
  refine okp_intro hT 54 Tryz.func88 rfl rfl rfl (Nat.le_of_ble_eq_true rfl) trivial ?_
  intro w0 F0 I
  repeat (first|refine z2 ?_|refine z1 ?_|refine z3 ?_|refine z4 ?_|refine z5 ?_)
  refine al_call hc rfl rfl rfl rfl (.cons (.refl (x := rowS p) hnp) .nil) (.inl trivial) rfl rfl ?_
  repeat (first|refine z2 ?_|refine z1 ?_|refine z3 ?_|refine z4 ?_|refine z5 ?_)
  refine awp_cond rfl (fun h => absurd h (by decide)) (fun _ => ?_)
  repeat (first|refine z2 ?_|refine z1 ?_|refine z3 ?_|refine z4 ?_|refine z5 ?_)
  refine al_call hck rfl rfl rfl rfl (.cons (.refl (x := latS p.length C) hnl) .nil) (.inl trivial) rfl rfl ?_
  repeat (first|refine z2 ?_|refine z1 ?_|refine z3 ?_|refine z4 ?_|refine z5 ?_)
  refine awp_cond rfl (fun h => absurd h (by decide)) (fun _ => ?_)
  repeat (first|refine z2 ?_|refine z1 ?_|refine z3 ?_|refine z4 ?_|refine z5 ?_)
  refine al_call hsa rfl rfl rfl rfl (.cons (.refl (x := latS p.length C) hnl) .nil) (.inr ⟨⟨hnl, trivial⟩, rfl⟩) rfl rfl ?_
  repeat (first|refine z2 ?_|refine z1 ?_|refine z3 ?_|refine z4 ?_|refine z5 ?_)
  have hdA : (0 != 0) = false := rfl
  have hdB : (!(0 != 0)) = true := rfl
  repeat (first|refine z2 ?_|refine z1 ?_|refine z3 ?_|refine z4 ?_|refine z5 ?_|refine z6 ?_|refine z7 ?_)
  refine al_on_call heq rfl rfl rfl rfl rfl rfl rfl (.cons (.refl (x := latS p.length C) hnl) (.cons (.refl (x := latS p.length C) hnl) .nil)) (.inl trivial) rfl rfl ?_
  repeat (first|refine z2 ?_|refine z1 ?_|refine z3 ?_|refine z4 ?_|refine z5 ?_|refine z6 ?_|refine z7 ?_)
  refine awp_cond rfl (fun h => absurd h (by decide)) (fun _ => ?_)
  repeat (first|refine z2 ?_|refine z1 ?_|refine z3 ?_|refine z4 ?_|refine z5 ?_)
  refine al_call han rfl rfl rfl rfl (.cons (.refl (x := latS p.length C) hnl) .nil) (.inr ⟨⟨hnl, trivial⟩, rfl⟩) rfl rfl ?_
  repeat (first|refine z2 ?_|refine z1 ?_|refine z3 ?_|refine z4 ?_|refine z5 ?_|refine z6 ?_|refine z7 ?_)
  refine al_on_call hsm rfl rfl rfl rfl rfl rfl rfl (.cons (.refl (x := matS K) hnk2) (.cons (.refl (x := matS Mp) hnm) .nil)) (.inl trivial) rfl rfl ?_
  repeat (first|refine z2 ?_|refine z1 ?_|refine z3 ?_|refine z4 ?_|refine z5 ?_|refine z6 ?_|refine z7 ?_)
  refine awp_cond rfl (fun h => ?_) (fun h => ?_)
  · have h : (!decide (K = Mp)) = true := h
    rw [if_neg (by simpa using h)]
    repeat (first|refine z2 ?_|refine z1 ?_|refine z3 ?_|refine z4 ?_|refine z5 ?_)
    (exact awp_ret ⟨.inl rfl, ret_one rfl (.refl (by first | trivial | exact nrl_u64s _))⟩)
  · have h : (!decide (K = Mp)) = false := h
    rw [if_pos (by simpa using h)]
    repeat (first|refine z2 ?_|refine z1 ?_|refine z3 ?_|refine z4 ?_|refine z5 ?_)
    (exact awp_ret ⟨.inl rfl, ret_one rfl (.refl (by first | trivial | exact nrl_u64s _))⟩)
end Go.Proofs.YtlbhgejbfhhipaaGreatDoor

/- Walks: intervals checked. -/
namespace Go.Proofs.YtlbhgejbfhhipaaGreatDoor
open Go Go.Am Go.Lib Go.Sp Z1 Z2 Z3 Z4 Z5 Z6
def bigB (v : Int) : Bool := decide (v > 1000 ∨ v < -1000)
def monR (n : Int) (x : List Int) : Int := if (x.length : Int) ≠ n then 5 else if x.any bigB = true then 4 else 0
def monR' (n : Int) : List (List Int) → Int
  | [] => 0
  | x :: l => if monR n x ≠ 0 then monR n x else monR' n l
def monAll (p : List Int) (l : List (List Int)) : Int := if primeChk p ≠ 0 then primeChk p else monR' p.length l
theorem monall_ok {Λ : Lai} (p : List Int) (M : List (List Int)) (hp : small64L p) (hl : p.length ≤ 1000000000) (hM : M.length ≤ 1000000000000) (hlen : ∀ r ∈ M, r.length ≤ 1000000000000) : OkP Λ Tryz.prog 64 [rowS p, matS M] (.v (.int .i64 (monAll p M))) := by
  refine okp_intro hT 40 Tryz.func64 rfl rfl rfl (Nat.le_of_ble_eq_true rfl) trivial ?_
  intro w0 F0 I
  have hc := primechk_ok (Λ := Λ) p hp hl
  have hnp := nr_rowS p
  unfold monAll
  repeat (first|refine z2 ?_|refine z1 ?_|refine z3 ?_|refine z4 ?_|refine z5 ?_)
  refine al_call hc rfl rfl rfl rfl (.cons (.refl hnp) .nil) (.inl trivial) rfl rfl ?_
  repeat (first|refine z2 ?_|refine z1 ?_|refine z3 ?_|refine z4 ?_|refine z5 ?_)
  refine awp_cond rfl (fun h => ?_) (fun h => ?_)
  · have h : primeChk p ≠ 0 := by simpa using h
    rw [if_pos h]
    repeat (first|refine z2 ?_|refine z1 ?_|refine z3 ?_|refine z4 ?_|refine z5 ?_)
    (exact awp_ret ⟨.inl rfl, ret_one rfl (.refl (by first | trivial | exact nrl_u64s _))⟩)
  have h : primeChk p = 0 := by simpa using h
  rw [if_neg (fun e => e h)]
  unfold matS rowS
  repeat (first|refine z2 ?_|refine z1 ?_|refine z3 ?_|refine z4 ?_|refine z5 ?_)
  refine awp_loop (fun x : { x : Nat // x ≤ M.length ∧ monR' p.length M = monR' p.length (M.drop x) } => ⟨[(0, .sl 1 p.length (i64s p)), (15, .sl 1 M.length (rowsC M)), (16, .v (.int .i64 M.length)), (17, .v (.int .i64 x.1))], [], 0⟩) (fun x => M.length - x.1) ⟨0, Nat.zero_le _, rfl⟩ (le_sub ⟨rfl, rfl, rfl, rfl, trivial⟩ rfl rfl) ?_
  rintro ⟨j, hj, he⟩
  simp only at hj he ⊢
  repeat (first|refine z2 ?_|refine z1 ?_|refine z3 ?_|refine z4 ?_|refine z5 ?_)
  refine awp_cond rfl (fun h2 => ?_) (fun h2 => ?_)
  · have hjl : j < M.length := by have := of_decide_eq_true h2; omega
    rw [List.drop_eq_getElem_cons hjl, monR'] at he
    have hrl := hlen M[j] (List.getElem_mem hjl)
    repeat (first|refine z2 ?_|refine z1 ?_|refine z3 ?_|refine z4 ?_|refine z5 ?_)
    refine al_pure hT rfl (pure_load_pt rfl rfl rfl (rowsC_drop (j := j) (by omega) hjl)) rfl rfl True.intro ?_
    unfold rowS
    obtain ⟨x, hx⟩ : ∃ x, x = M[j] := ⟨_, rfl⟩
    rw [← hx] at he hrl ⊢
    unfold monR at he
    repeat (first|refine z2 ?_|refine z1 ?_|refine z3 ?_|refine z4 ?_|refine z5 ?_)
    refine awp_cond rfl (fun h3 => ?_) (fun h3 => ?_)
    · have h3 : (x.length : Int) ≠ p.length := by simpa using h3
      rw [if_pos h3, if_pos (by decide)] at he
      repeat (first|refine z2 ?_|refine z1 ?_|refine z3 ?_|refine z4 ?_|refine z5 ?_)
      refine awp_ret ⟨.inl rfl, ret_one rfl ?_⟩
      rw [he]
      exact .refl trivial
    have h3 : (x.length : Int) = p.length := by simpa using h3
    rw [if_neg (show ¬ ((x.length : Int) ≠ p.length) from fun e => e h3)] at he
    repeat (first|refine z2 ?_|refine z1 ?_|refine z3 ?_|refine z4 ?_|refine z5 ?_)
    refine awp_loop (fun y : { y : Nat // y ≤ x.length ∧ (x.take y).any bigB = false } => ⟨[(0, .sl 1 p.length (i64s p)), (15, .sl 1 M.length (rowsC M)), (16, .v (.int .i64 M.length)), (17, .v (.int .i64 j)), (26, .sl 1 x.length (i64s x)), (27, .v (.int .i64 x.length)), (28, .v (.int .i64 y.1))], [], 0⟩) (fun y => x.length - y.1) ⟨0, Nat.zero_le _, rfl⟩ (le_sub ⟨rfl, rfl, rfl, rfl, rfl, rfl, rfl, trivial⟩ rfl rfl) ?_
    rintro ⟨k, hk, hall⟩
    simp only at hk hall ⊢
    repeat (first|refine z2 ?_|refine z1 ?_|refine z3 ?_|refine z4 ?_|refine z5 ?_)
    refine awp_cond rfl (fun h4 => ?_) (fun h4 => ?_)
    · have hkl : k < x.length := by have := of_decide_eq_true h4; omega
      repeat (first|refine z2 ?_|refine z1 ?_|refine z3 ?_|refine z4 ?_|refine z5 ?_)
      refine al_pure hT rfl (pure_load_pt rfl rfl rfl (i64s_drop (j := k) (by omega) hkl)) rfl rfl True.intro ?_
      have hnext : (x.take (k + 1)).any bigB = bigB x[k] := by
        rw [List.take_add_one, List.getElem?_eq_getElem hkl, Option.toList_some, List.any_append, hall]
        simp
      have hbad : bigB x[k] = true → x.any bigB = true := fun e => List.any_eq_true.2 ⟨x[k], List.getElem_mem hkl, e⟩
      obtain ⟨v, hv⟩ : ∃ v, v = x[k] := ⟨_, rfl⟩
      rw [← hv] at hnext hbad ⊢
      repeat (refine z2 ?_)
      refine al_nil ?_
      (repeat (first | refine awp_seq ?_ | refine awp_block ?_ | refine awp_skip ?_))
      refine awp_at ⟨[(0, .sl 1 p.length (i64s p)), (15, .sl 1 M.length (rowsC M)), (16, .v (.int .i64 M.length)), (17, .v (.int .i64 j)), (26, .sl 1 x.length (i64s x)), (27, .v (.int .i64 x.length)), (28, .v (.int .i64 k)), (37, .v (.bool (bigB v)))], [], 0⟩ ?_ ?_
      · refine awp_region ?_
        by_cases hg : v > 1000
        · have hdA : decide (v > 1000) = true := decide_eq_true hg
          have hf : bigB v = true := decide_eq_true (.inl hg)
          repeat (first|refine z2 ?_|refine z1 ?_|refine z3 ?_|refine z4 ?_|refine z5 ?_|refine z8 ?_|refine z9 ?_)
          refine al_pick rfl rfl rfl (v := decide (v > 1000)) (r := .v (.bool true)) (by rw [hdA]; rfl) rfl rfl ?_
          repeat (first|refine z2 ?_|refine z1 ?_|refine z3 ?_|refine z4 ?_|refine z5 ?_)
          refine le_sub ⟨rfl, rfl, rfl, rfl, rfl, rfl, rfl, ?_, trivial⟩ rfl rfl
          rw [hf]; rfl
        · have hdA : decide (v > 1000) = false := decide_eq_false hg
          repeat (first|refine z2 ?_|refine z1 ?_|refine z3 ?_|refine z4 ?_|refine z5 ?_|refine z8 ?_|refine z9 ?_)
          refine le_sub ⟨rfl, rfl, rfl, rfl, rfl, rfl, rfl, ?_, trivial⟩ rfl rfl
          show some (AV.v (.bool (cond (decide (v > 1000)) true (decide (v < -1000))))) = _
          rw [hdA, cond_false]
          congr 3
          unfold bigB
          by_cases h3 : v < -1000
          · rw [decide_eq_true h3, decide_eq_true (.inr h3)]
          · rw [decide_eq_false h3, decide_eq_false (fun e => e.elim hg h3)]
      · refine awp_cond rfl (fun h => ?_) (fun h => ?_)
        · rw [if_pos (hbad h), if_pos (show (4 : Int) ≠ 0 by decide)] at he
          repeat (first|refine z2 ?_|refine z1 ?_|refine z3 ?_|refine z4 ?_|refine z5 ?_)
          refine awp_ret ⟨.inl rfl, ret_one rfl ?_⟩
          rw [he]
          exact .refl trivial
        · repeat (first|refine z2 ?_|refine z1 ?_|refine z3 ?_|refine z4 ?_|refine z5 ?_)
          exact ⟨⟨k + 1, hkl, by rw [hnext, h]⟩, le_sub ⟨rfl, rfl, rfl, rfl, rfl, rfl, rfl, trivial⟩ rfl rfl, by show x.length - (k + 1) < x.length - k; omega⟩
    · have hkl : k = x.length := by have := of_decide_eq_false h4; omega
      subst hkl
      rw [List.take_length] at hall
      rw [if_neg (show ¬ x.any bigB = true by rw [hall]; simp), if_neg (show ¬ (0 : Int) ≠ 0 by decide)] at he
      repeat (first|refine z2 ?_|refine z1 ?_|refine z3 ?_|refine z4 ?_|refine z5 ?_)
      exact ⟨⟨j + 1, hjl, he⟩, le_sub ⟨rfl, rfl, rfl, rfl, trivial⟩ rfl rfl, by show M.length - (j + 1) < M.length - j; omega⟩
  · have hjl : j = M.length := by have := of_decide_eq_false h2; omega
    subst hjl
    rw [List.drop_length, monR'] at he
    repeat (first|refine z2 ?_|refine z1 ?_|refine z3 ?_|refine z4 ?_|refine z5 ?_)
    refine awp_ret ⟨.inl rfl, ret_one rfl ?_⟩
    rw [he]
    exact .refl trivial
def monChk (p x : List Int) : Int := if primeChk p ≠ 0 then primeChk p else monR p.length x
theorem monchk_ok {Λ : Lai} (p x : List Int) (hp : small64L p) (hl : p.length ≤ 1000000000) (hx : x.length ≤ 1000000000000) : OkP Λ Tryz.prog 18 [rowS p, rowS x] (.v (.int .i64 (monChk p x))) := by
  refine okp_intro hT 9 Tryz.func18 rfl rfl rfl (Nat.le_of_ble_eq_true rfl) trivial ?_
  intro w0 F0 I
  have hm := monall_ok (Λ := Λ) p [x] hp hl (by simp) (fun r hr => by simp at hr; rw [hr]; exact hx)
  have e : monAll p [x] = monChk p x := by
    unfold monAll monChk monR'
    split
    · rfl
    · split
      · rfl
      · rename_i h; simpa [monR'] using (by simpa using h : monR p.length x = 0).symm
  rw [e] at hm
  have hnp := nr_rowS p
  have hnx := nr_rowS x
  repeat (first|refine z2 ?_|refine z1 ?_|refine z3 ?_|refine z4 ?_|refine z5 ?_)
  refine al_litF hT rfl rfl rfl rfl rfl rfl rfl rfl rfl ?_
  refine al_call hm rfl rfl rfl rfl (.cons (.refl (x := rowS p) hnp) (.cons (.refl (x := matS [x]) ⟨hnx, trivial⟩) .nil)) (.inl trivial) rfl rfl ?_
  repeat (first|refine z2 ?_|refine z1 ?_|refine z3 ?_|refine z4 ?_|refine z5 ?_)
  (exact awp_ret ⟨.inl rfl, ret_one rfl (.refl (by first | trivial | exact nrl_u64s _))⟩)
end Go.Proofs.YtlbhgejbfhhipaaGreatDoor
