/- Own lemmas, part 6: an abstract machine for walks, plain facts on numbers and lattices, walks of the functions of the program: Yb Yc Yd Ye. -/
import Derived.Test.YtlbhgejbfhhipaaGreatDoorB05
import Derived.Test.YtlbhgejbfhhipaaGreatDoorTie
import Derived.Test.YtlbhgejbfhhipaaGreatDoorCards
import Derived.ProofKit
import Derived.OpenShut
import Derived.Deep.DeepHandedRow
import Derived.Deep.DeepWitnessRowRef
import Derived.Lib.LaidTab
import Derived.Lib.LaidIn
/- Walks: the chapter's examples are known. -/
namespace Go.Proofs.YtlbhgejbfhhipaaGreatDoor
open Go Go.Am Go.Lib Go.Sp Z1 Z2 Z3 Z4 Z5 Z6
section
variable {κ : Cx} {st : AS} {own : List Nat} {K : AS → Prop} {ops : Array Oper} {k : Nat} {o : Oper} {l : List Oper} {j dj : Nat} {b g : Bool} {d : Nat}
/-- A guarded comparison whose answer is known. -/
theorem zk {v w : Bool} {C : Prop} (hv2 : v = w) (h : AL Tryz.prog κ ops own K (k + 1) l (st.put (some d) (.v (.bool w)))) (hg : o.guard = some (j, b) := by exact rfl) (hj : (ops[j]?).bind (·.dst) = some dj := by exact rfl) (hv : guardOf st dj b = some g := by exact rfl) (hgt : g = true := by exact rfl) (hp : pureOp T st o.op = some (C, .v (.bool v)) := by exact rfl) (hC : C := by first | exact True.intro | exact rfl) (hd : o.dst = some d := by exact rfl) (hN : Nat.blt d κ.N = true := by exact rfl) : AL Tryz.prog κ ops own K k (o :: l) st :=
  al_on hT hg hj hv hgt (by rw [hp, hv2]) hd hN hC h
end
theorem ke (a b : Rat) (h : a = b) : ((zS a.num == zS b.num) && (zS (a.den : Int) == zS (b.den : Int))) = true := by rw [rat_beq]; exact decide_eq_true h
set_option maxRecDepth 100000 in
set_option maxHeartbeats 2000000 in
theorem known_ok : OkP (laiOf Tryz.prog) Tryz.prog 13 [] (.v (.bool true)) := by
  obtain ⟨a1, a2, a3⟩ := mt_err1
  obtain ⟨b1, b2, b3⟩ := mt_err2
  obtain ⟨c1, c2, c3⟩ := mt_pure
  have h1 := terr_ok (x := [-1, 1, 0]) mt_nice.K (by decide)
  rw [mt_nice.error a1 a2, a3] at h1
  have h2 := terr_ok (x := [-2, 0, 1]) mt_nice.K (by decide)
  rw [mt_nice.error b1 b2, b3] at h2
  have h1 : OkP (laiOf Tryz.prog) Tryz.prog 17 [tunS mtP mtC mtM mtG, rowS [-1, 1, 0]] (.tup [.sl 2 3 (szC [((1 : Int) : Rat), ((-1 : Int) : Rat), Rat.normalize 1 4 (by decide)]), .v (.int .i64 0)]) := h1
  have h2 : OkP (laiOf Tryz.prog) Tryz.prog 17 [tunS mtP mtC mtM mtG, rowS [-2, 0, 1]] (.tup [.sl 2 3 (szC [((0 : Int) : Rat), ((0 : Int) : Rat), ((0 : Int) : Rat)]), .v (.int .i64 0)]) := h2
  have h3 := pure_ok mt_nice.K (by decide) (by rw [mt_nice.err, if_neg (fun e => e c1), if_pos (by exact c2)])
  rw [decide_eq_true (by exact c3)] at h3
  have h4 := ttext_ok mt_nice.K mt_nice.tun
  rw [mt_text] at h4
  have hm := meantone_ok
  have w0 := lwhole_ok 0 (by omega)
  have w1 := lwhole_ok 1 (by omega)
  have wm := lwhole_ok (-1) (by omega)
  have w4 := lpart_ok 1 4 (by decide) (by omega) (by omega)
  have hnt := nr_tunS mtP mtC mtM mtG
  have hr1 := nr_rowS [-1, 1, 0]
  have hr2 := nr_rowS [-2, 0, 1]
  refine okp_intro hT 99 Tryz.func13 rfl rfl rfl (Nat.le_of_ble_eq_true rfl) trivial ?_
  intro w0' F0 I
  repeat (first|refine z2 ?_|refine z1 ?_|refine z3 ?_|refine z4 ?_|refine z5 ?_)
  refine zs hm ?_ (hs := by exact .nil) (hr := by exact ⟨trivial, rfl⟩)
  repeat (first|refine z2 ?_|refine z1 ?_|refine z3 ?_|refine z4 ?_|refine z5 ?_)
  refine al_litF hT rfl rfl rfl rfl rfl rfl rfl rfl rfl ?_
  refine zs h1 ?_ (hs := by exact .cons (.refl (x := tunS mtP mtC mtM mtG) hnt) (.cons (.refl (x := rowS [-1, 1, 0]) hr1) .nil)) (hr := by exact ⟨⟨hnt, hr1, trivial⟩, rfl⟩)
  repeat (first|refine z2 ?_|refine z1 ?_|refine z3 ?_|refine z4 ?_|refine z5 ?_)
  refine al_litF hT rfl rfl rfl rfl rfl rfl rfl rfl rfl ?_
  refine zs h2 ?_ (hs := by exact .cons (.refl (x := tunS mtP mtC mtM mtG) hnt) (.cons (.refl (x := rowS [-2, 0, 1]) hr2) .nil)) (hr := by exact ⟨⟨hnt, hr2, trivial⟩, rfl⟩)
  repeat (first|refine z2 ?_|refine z1 ?_|refine z3 ?_|refine z4 ?_|refine z5 ?_)
  refine zc h3 ?_ (hs := by exact .cons (.refl (x := tunS mtP mtC mtM mtG) hnt) .nil) (hr := by exact .inl ⟨trivial, trivial, trivial⟩)
  repeat (first|refine z2 ?_|refine z1 ?_|refine z3 ?_|refine z4 ?_|refine z5 ?_)
  refine zc h4 ?_ (hs := by exact .cons (.refl (x := tunS mtP mtC mtM mtG) hnt) .nil) (hr := by exact .inl ⟨trivial, trivial, trivial⟩)
  repeat (first|refine z2 ?_|refine z1 ?_|refine z3 ?_|refine z4 ?_|refine z5 ?_)
  refine awp_region_draw [] hmix (by kernel_rfl) ?_
  have hdA : (0 == 0) = true := rfl
  repeat (first|refine z2 ?_|refine z1 ?_|refine z3 ?_|refine z4 ?_|refine z5 ?_|refine z8 ?_|refine z9 ?_)
  refine zo w1 ?_ (hgt := by exact rfl) (hs := by exact .cons (.refl trivial) .nil) (hr := by exact .inl ⟨trivial, trivial, trivial⟩)
  refine zk (ke ((1 : Int) : Rat) ((1 : Int) : Rat) rfl) ?_
  repeat (first|refine z2 ?_|refine z1 ?_|refine z3 ?_|refine z4 ?_|refine z5 ?_|refine z8 ?_|refine z9 ?_)
  refine zo wm ?_ (hgt := by exact rfl) (hs := by exact .cons (.refl trivial) .nil) (hr := by exact .inl ⟨trivial, trivial, trivial⟩)
  refine zk (ke ((-1 : Int) : Rat) ((-1 : Int) : Rat) rfl) ?_
  repeat (first|refine z2 ?_|refine z1 ?_|refine z3 ?_|refine z4 ?_|refine z5 ?_|refine z8 ?_|refine z9 ?_)
  refine zo w4 ?_ (hgt := by exact rfl) (hs := by exact .cons (.refl trivial) (.cons (.refl trivial) .nil)) (hr := by exact .inl ⟨trivial, trivial, trivial⟩)
  refine zk (ke (Rat.normalize 1 4 (by decide)) (Rat.normalize 1 4 (by decide)) rfl) ?_
  repeat (first|refine z2 ?_|refine z1 ?_|refine z3 ?_|refine z4 ?_|refine z5 ?_|refine z8 ?_|refine z9 ?_)
  refine zo w0 ?_ (hgt := by exact rfl) (hs := by exact .cons (.refl trivial) .nil) (hr := by exact .inl ⟨trivial, trivial, trivial⟩)
  refine zk (ke ((0 : Int) : Rat) ((0 : Int) : Rat) rfl) ?_
  repeat (first|refine z2 ?_|refine z1 ?_|refine z3 ?_|refine z4 ?_|refine z5 ?_|refine z8 ?_|refine z9 ?_)
  refine zo w0 ?_ (hgt := by exact rfl) (hs := by exact .cons (.refl trivial) .nil) (hr := by exact .inl ⟨trivial, trivial, trivial⟩)
  refine zk (ke ((0 : Int) : Rat) ((0 : Int) : Rat) rfl) ?_
  refine z2 ?_
  refine z2 ?_
  refine z8 ?_
  refine z2 ?_
  refine z2 ?_
  refine z8 ?_
  refine z8 ?_
  refine z2 ?_
  refine z2 ?_
  refine z8 ?_
  refine zk (beq_self_eq_true (α := List UInt8) _) ?_
  repeat (first|refine z2 ?_|refine z1 ?_|refine z3 ?_|refine z4 ?_|refine z5 ?_|refine z8 ?_|refine z9 ?_)
  repeat (first|refine z2 ?_|refine z1 ?_|refine z3 ?_|refine z4 ?_|refine z5 ?_)
  (exact awp_ret ⟨.inl rfl, ret_one rfl (.refl (by first | trivial | exact nrl_u64s _))⟩)
end Go.Proofs.YtlbhgejbfhhipaaGreatDoor

/- Walks: the statement on tempered sizes and errors of intervals. -/
namespace Go.Proofs.YtlbhgejbfhhipaaGreatDoor
open Go Go.Am Go.Lib Go.Sp Z1 Z2 Z3 Z4 Z5 Z6
theorem subL_comb (s : List Rat) (x : List Int) : subL s x = combL [s, ratsL x] [((1 : Int) : Rat), ((-1 : Int) : Rat)] s.length 2 := by
  unfold subL subJ combL
  apply List.map_congr_left
  intro c hc
  rw [if_pos (List.mem_range.1 hc)]
  show _ = 0 + s.getD c 0 * ((1 : Int) : Rat) + (ratsL x).getD c 0 * ((-1 : Int) : Rat)
  rw [rats_getD, show ((1 : Int) : Rat) = 1 from rfl, show ((-1 : Int) : Rat) = -1 from rfl, Rat.zero_add, Rat.mul_one, Rat.sub_eq_add_neg]
  congr 1
  rw [Rat.mul_neg, Rat.mul_one]
theorem tw_cr13 {B : Nat} {q : Rat} (h : Tw B q) (hB : B < 10000000000000) : Cr 13 q := by
  obtain ⟨h1, h2⟩ := h.short
  exact ⟨by omega, by omega⟩
theorem Plan.fits {Λ : Lai} (q : Plan) : OkP Λ Tryz.prog 14 [.agg q.av] (.v (.bool (decide ((q.R.length : Int) ≤ 3)))) := fits24_ok q.pr q.R q.b q.L
/-- The bounds of what the type of a plan lets in. -/
structure Plan.In (q : Plan) : Prop where
  pr : 0 ≤ q.pr ∧ q.pr ≤ 255
  rows : ∀ r ∈ q.R, okRw r
  gens : okGns q.L
set_option maxRecDepth 100000 in
set_option maxHeartbeats 2000000 in
theorem intervals_ok (q : Plan) (h : q.In) (x : List Int) (hx : small64L x) (hxl : x.length ≤ 9223372036854775807) : OkP (laiOf Tryz.prog) Tryz.prog 3 [.agg q.av, rowS x] (.v (.bool true)) := by
  have hfi := q.fits (Λ := laiOf Tryz.prog)
  have hkn := known_ok
  have hal : PLift (q.av.length = 35) := ⟨pln24_len h.gens⟩
  have hna : nrl q.av := nrl_pln24 _ _ _ _
  have hnx := nr_rowS x
  have htk : (q.av.drop 0).take 35 = q.av := by rw [List.drop_zero, List.take_of_length_le (by have := hal.down; omega)]
  by_cases hR : (q.R.length : Int) ≤ 3
  · have hok : q.Ok := ⟨h.pr, ⟨by omega, h.rows⟩, h.gens⟩
    rw [decide_eq_true hR] at hfi
    have hmk := hok.make
    have hN := hok.nice
    generalize q.av = A at hfi hal hna htk hmk ⊢
    generalize q.p = p at hmk hN
    generalize q.C = C at hmk hN
    generalize q.Mp = Mp at hmk hN
    generalize q.G = G at hmk hN
    refine okp_intro hT 111 Tryz.func3 rfl rfl rfl (Nat.le_of_ble_eq_true rfl) trivial ?_
    intro w0 F0 I
    (repeat (first | refine awp_seq ?_ | refine awp_block ?_ | refine awp_skip ?_))
    refine awp_at ⟨[(1, rowS x), (2, .adr 0 0 0)], [(0, [⟨35, A⟩])], 1⟩ ?_ ?_
    · repeat (first|refine z2 ?_|refine z1 ?_|refine z3 ?_|refine z4 ?_|refine z5 ?_)
      exact le_ren (fun g t => some (g, t)) ⟨⟨_, rfl, .refl hnx⟩, ⟨_, rfl, .adr rfl (by show 0 < 1; omega)⟩, trivial⟩ ⟨⟨⟨by show 0 < 1; omega, .inr ⟨0, 0, _, rfl, rfl, hal.down, WkL.refl hna⟩⟩, trivial⟩, trivial⟩ rfl (base_nil _ _)
    (repeat (first | refine awp_seq ?_ | refine awp_block ?_ | refine awp_skip ?_))
    refine awp_at ⟨[(1, rowS x), (2, .adr 0 0 0), (25, .v (.bool (decide (x.length > 8))))], [(0, [⟨35, A⟩])], 1⟩ ?_ ?_
    · refine awp_region ?_
      refine zc (hkn) ?_
      repeat (first|refine z2 ?_|refine z1 ?_|refine z3 ?_|refine z4 ?_|refine z5 ?_)
      have hdA : (!true) = false := rfl
      refine al_on hT rfl rfl rfl rfl (pure_load_aa rfl rfl rfl rfl htk) rfl rfl (by show 0 + 35 ≤ A.length; have := hal.down; omega) ?_
      refine zo hfi ?_ (hs := by exact .cons (.refl (x := .agg A) hna) .nil)
      repeat (first|refine z2 ?_|refine z1 ?_|refine z3 ?_|refine z4 ?_|refine z5 ?_|refine z8 ?_|refine z9 ?_)
      refine le_sub ⟨rfl, rfl, ?_, trivial⟩ rfl rfl
      show some (AV.v (.bool (cond (cond (!true) true (!true)) true (decide ((x.length : Int) > 8))))) = _
      show some (AV.v (.bool (decide ((x.length : Int) > 8)))) = some (.v (.bool (decide (x.length > 8))))
      by_cases h8 : x.length > 8
      · rw [decide_eq_true h8, decide_eq_true (by omega)]
      · rw [decide_eq_false h8, decide_eq_false (by omega)]
    refine awp_cond rfl (fun h8 => ?_) (fun h8 => ?_)
    · repeat (first|refine z2 ?_|refine z1 ?_|refine z3 ?_|refine z4 ?_|refine z5 ?_)
      refine zc (hkn) ?_
      repeat (first|refine z2 ?_|refine z1 ?_|refine z3 ?_|refine z4 ?_|refine z5 ?_)
      (exact awp_ret ⟨.inl rfl, ret_one rfl (.refl (by first | trivial | exact nrl_u64s _))⟩)
    have h8 : x.length ≤ 8 := by have := of_decide_eq_false h8; omega
    have hof := tof_ok (x := x) hN.K (by omega)
    have her := terr_ok (x := x) hN.K (by omega)
    have hmo := monchk_ok (Λ := laiOf Tryz.prog) p x hN.K.small (by have := hN.plen; omega) (by omega)
    have hnt := nr_tunS p C Mp G
    have hnp := nr_rowS p
    have hntm := nr_tmpS p C Mp
    repeat (first|refine z2 ?_|refine z1 ?_|refine z3 ?_|refine z4 ?_|refine z5 ?_)
    refine al_pure hT rfl (pure_load_aa rfl rfl rfl rfl htk) rfl rfl (by show 0 + 35 ≤ A.length; have := hal.down; omega) ?_
    refine zs hmk ?_ (hs := by exact .cons (.refl (x := .agg A) hna) .nil) (hr := by exact ⟨⟨hna, trivial⟩, rfl⟩)
    repeat (first|refine z2 ?_|refine z1 ?_|refine z3 ?_|refine z4 ?_|refine z5 ?_)
    by_cases hm : monChk p x = 0
    · have hte := temper_ok (x := x) hN.K.chk (by omega) (fun _ => ⟨(hN.K.rect rfl).1, by have := (hN.K.rect rfl).2.1; omega, (hN.K.rect rfl).2.2⟩)
      unfold temR at hte
      rw [if_neg (fun e => e (mon_row hm))] at hte
      rw [hm] at hmo
      by_cases hf : (dots x Mp).all fitsB = true
      · rw [hN.of hm hf] at hof
        rw [hN.error hm hf] at her
        rw [if_pos hf] at hte
        obtain ⟨m1, m2⟩ := mon_len hm
        have hsz := sizeof_ok (p := p) (x := x) (C := C) (Mp := Mp) (G := G) (by rw [m1]; exact (hN.K.rect rfl).1) h8 hN.four m2 (hN.K.rect rfl).2.2 (by have := hN.plen; omega) (by rw [hN.len]; exact Nat.le_refl _) (fun l hl => ⟨by rw [(hN.rows l hl).1]; exact Nat.le_refl _, fun y hy => tw_cr ((hN.rows l hl).2 y hy)⟩)
        have hsz : OkP (laiOf Tryz.prog) Tryz.prog 20 [tunS p C Mp G, rowS x] (szS (temS p x Mp G)) := hsz
        have htw := hN.tem hf
        have hsl : (temS p x Mp G).length = p.length := temS_len _ _ _ _
        have hpl := hN.plen
        have hju := ljust_ok x hx (by omega)
        have hrl := ratsL_len x
        have hmi := lminus_ok (temS p x Mp G) (ratsL x) (e := 13) (by omega) (by omega) (fun y hy => tw_cr13 (htw y hy) (by omega)) (fun y hy => by
          obtain ⟨z, hz, rfl⟩ := List.mem_map.1 hy
          have := m2 z hz
          exact Cr.int (by omega) (by omega)) (by omega) (by omega)
        rw [← subL_comb] at hmi
        have hsm := lsame_ok (Λ := laiOf Tryz.prog) (temS p x Mp G) (temS p x Mp G) (by omega) (by omega)
        rw [decide_eq_true rfl] at hsm
        have hsl2 := subL_len (temS p x Mp G) x
        have hsm2 := lsame_ok (Λ := laiOf Tryz.prog) (subL (temS p x Mp G) x) (subL (temS p x Mp G) x) (by omega) (by omega)
        rw [decide_eq_true rfl] at hsm2
        have hnd := nr_rowS (dots x Mp)
        have hnr := nr_szS (ratsL x)
        have hns := nr_szS (temS p x Mp G)
        have hne := nr_szS (subL (temS p x Mp G) x)
        generalize subL (temS p x Mp G) x = E at her hmi hsm2 hne
        generalize temS p x Mp G = s at hof hsz hmi hsm hns
        generalize dots x Mp = D at hte hnd
        refine zs hof ?_ (hs := by exact .cons (.refl (x := tunS p C Mp G) hnt) (.cons (.refl hnx) .nil)) (hr := by exact ⟨⟨hnt, hnx, trivial⟩, rfl⟩)
        repeat (first|refine z2 ?_|refine z1 ?_|refine z3 ?_|refine z4 ?_|refine z5 ?_)
        refine zs her ?_ (hs := by exact .cons (.refl (x := tunS p C Mp G) hnt) (.cons (.refl hnx) .nil)) (hr := by exact ⟨⟨hnt, hnx, trivial⟩, rfl⟩)
        repeat (first|refine z2 ?_|refine z1 ?_|refine z3 ?_|refine z4 ?_|refine z5 ?_)
        refine zc hmo ?_ (hs := by exact .cons (.refl (x := rowS p) hnp) (.cons (.refl hnx) .nil))
        repeat (first|refine z2 ?_|refine z1 ?_|refine z3 ?_|refine z4 ?_|refine z5 ?_)
        refine awp_cond rfl (fun h => absurd h (by decide)) (fun _ => ?_)
        repeat (first|refine z2 ?_|refine z1 ?_|refine z3 ?_|refine z4 ?_|refine z5 ?_)
        refine zs hte ?_ (hs := by exact .cons (.refl (x := tmpS p C Mp) hntm) (.cons (.refl hnx) .nil)) (hr := by exact ⟨⟨hntm, hnx, trivial⟩, rfl⟩)
        repeat (first|refine z2 ?_|refine z1 ?_|refine z3 ?_|refine z4 ?_|refine z5 ?_)
        refine awp_cond rfl (fun h => absurd h (by decide)) (fun _ => ?_)
        repeat (first|refine z2 ?_|refine z1 ?_|refine z3 ?_|refine z4 ?_|refine z5 ?_)
        refine zs hsz ?_ (hs := by exact .cons (.refl (x := tunS p C Mp G) hnt) (.cons (.refl hnx) .nil)) (hr := by exact ⟨⟨hnt, hnx, trivial⟩, rfl⟩)
        repeat (first|refine z2 ?_|refine z1 ?_|refine z3 ?_|refine z4 ?_|refine z5 ?_)
        refine zc hsm ?_ (hs := by exact .cons (.refl hns) (.cons (.refl hns) .nil))
        have hdA : true = true := rfl
        repeat (first|refine z2 ?_|refine z1 ?_|refine z3 ?_|refine z4 ?_|refine z5 ?_|refine z8 ?_|refine z9 ?_)
        refine zo hju ?_ (hgt := by exact rfl) (hs := by exact .cons (.refl hnx) .nil) (hr := by exact .inr ⟨⟨hnx, trivial⟩, rfl⟩)
        refine zo hmi ?_ (hgt := by exact rfl) (hs := by exact .cons (.refl hns) (.cons (.refl hnr) .nil)) (hr := by exact .inr ⟨⟨hns, hnr, trivial⟩, rfl⟩)
        refine zo hsm2 ?_ (hgt := by exact rfl) (hs := by exact .cons (.refl hne) (.cons (.refl hne) .nil))
        repeat (first|refine z2 ?_|refine z1 ?_|refine z3 ?_|refine z4 ?_|refine z5 ?_|refine z8 ?_|refine z9 ?_)
        repeat (first|refine z2 ?_|refine z1 ?_|refine z3 ?_|refine z4 ?_|refine z5 ?_)
        (exact awp_ret ⟨.inl rfl, ret_one rfl (.refl (by first | trivial | exact nrl_u64s _))⟩)
      · have he : temErr 0 p x Mp G = 4 := by rw [hN.err, if_neg (fun e => e hm), if_neg hf]
        unfold ofR at hof
        unfold errR at her
        rw [he, if_pos (by decide)] at hof her
        rw [if_neg hf] at hte
        refine zc hof ?_ (hs := by exact .cons (.refl (x := tunS p C Mp G) hnt) (.cons (.refl hnx) .nil)) (hr := by exact .inl ⟨trivial, trivial, trivial⟩)
        repeat (first|refine z2 ?_|refine z1 ?_|refine z3 ?_|refine z4 ?_|refine z5 ?_)
        refine zc her ?_ (hs := by exact .cons (.refl (x := tunS p C Mp G) hnt) (.cons (.refl hnx) .nil)) (hr := by exact .inl ⟨trivial, trivial, trivial⟩)
        repeat (first|refine z2 ?_|refine z1 ?_|refine z3 ?_|refine z4 ?_|refine z5 ?_)
        refine zc hmo ?_ (hs := by exact .cons (.refl (x := rowS p) hnp) (.cons (.refl hnx) .nil))
        repeat (first|refine z2 ?_|refine z1 ?_|refine z3 ?_|refine z4 ?_|refine z5 ?_)
        refine awp_cond rfl (fun h => absurd h (by decide)) (fun _ => ?_)
        repeat (first|refine z2 ?_|refine z1 ?_|refine z3 ?_|refine z4 ?_|refine z5 ?_)
        refine zc hte ?_ (hs := by exact .cons (.refl (x := tmpS p C Mp) hntm) (.cons (.refl hnx) .nil)) (hr := by exact .inl ⟨trivial, trivial, trivial⟩)
        repeat (first|refine z2 ?_|refine z1 ?_|refine z3 ?_|refine z4 ?_|refine z5 ?_)
        refine awp_cond rfl (fun _ => ?_) (fun h => absurd h (by decide))
        have hdA : true = true := rfl
        repeat (first|refine z2 ?_|refine z1 ?_|refine z3 ?_|refine z4 ?_|refine z5 ?_|refine z8 ?_|refine z9 ?_)
        (exact awp_ret ⟨.inl rfl, ret_one rfl (.refl (by first | trivial | exact nrl_u64s _))⟩)
    · have he : temErr 0 p x Mp G = monChk p x := by rw [hN.err, if_pos hm]
      unfold ofR at hof
      unfold errR at her
      rw [he, if_pos hm] at hof her
      generalize monChk p x = m at hof her hmo hm
      refine zc hof ?_ (hs := by exact .cons (.refl (x := tunS p C Mp G) hnt) (.cons (.refl hnx) .nil)) (hr := by exact .inl ⟨trivial, trivial, trivial⟩)
      repeat (first|refine z2 ?_|refine z1 ?_|refine z3 ?_|refine z4 ?_|refine z5 ?_)
      refine zc her ?_ (hs := by exact .cons (.refl (x := tunS p C Mp G) hnt) (.cons (.refl hnx) .nil)) (hr := by exact .inl ⟨trivial, trivial, trivial⟩)
      repeat (first|refine z2 ?_|refine z1 ?_|refine z3 ?_|refine z4 ?_|refine z5 ?_)
      refine zc hmo ?_ (hs := by exact .cons (.refl (x := rowS p) hnp) (.cons (.refl hnx) .nil))
      repeat (first|refine z2 ?_|refine z1 ?_|refine z3 ?_|refine z4 ?_|refine z5 ?_)
      refine awp_cond rfl (fun _ => ?_) (fun h => absurd (show (m != 0) = false from h) (by simpa using hm))
      have hdA : true = true := rfl
      (repeat (first | refine awp_seq ?_ | refine awp_block ?_ | refine awp_skip ?_))
      refine awp_region ?_
      repeat refine z2 ?_
      refine z8 ?_
      refine z8 ?_
      refine zk (beq_self_eq_true m) ?_
      repeat refine z2 ?_
      refine z8 ?_
      refine z8 ?_
      refine zk (beq_self_eq_true m) ?_
      repeat (first|refine z2 ?_|refine z1 ?_|refine z3 ?_|refine z4 ?_|refine z5 ?_)
      (exact awp_ret ⟨.inl rfl, ret_one rfl (.refl (by first | trivial | exact nrl_u64s _))⟩)
  · rw [decide_eq_false hR] at hfi
    generalize q.av = A at hfi hal hna htk ⊢
    refine okp_intro hT 111 Tryz.func3 rfl rfl rfl (Nat.le_of_ble_eq_true rfl) trivial ?_
    intro w0 F0 I
    (repeat (first | refine awp_seq ?_ | refine awp_block ?_ | refine awp_skip ?_))
    refine awp_at ⟨[(1, rowS x), (2, .adr 0 0 0)], [(0, [⟨35, A⟩])], 1⟩ ?_ ?_
    · repeat (first|refine z2 ?_|refine z1 ?_|refine z3 ?_|refine z4 ?_|refine z5 ?_)
      exact le_ren (fun g t => some (g, t)) ⟨⟨_, rfl, .refl hnx⟩, ⟨_, rfl, .adr rfl (by show 0 < 1; omega)⟩, trivial⟩ ⟨⟨⟨by show 0 < 1; omega, .inr ⟨0, 0, _, rfl, rfl, hal.down, WkL.refl hna⟩⟩, trivial⟩, trivial⟩ rfl (base_nil _ _)
    (repeat (first | refine awp_seq ?_ | refine awp_block ?_ | refine awp_skip ?_))
    refine awp_at ⟨[(25, .v (.bool true))], [(0, [⟨35, A⟩])], 1⟩ ?_ ?_
    · refine awp_region ?_
      refine zc (hkn) ?_
      repeat (first|refine z2 ?_|refine z1 ?_|refine z3 ?_|refine z4 ?_|refine z5 ?_)
      have hdA : (!true) = false := rfl
      refine al_on hT rfl rfl rfl rfl (pure_load_aa rfl rfl rfl rfl htk) rfl rfl (by show 0 + 35 ≤ A.length; have := hal.down; omega) ?_
      refine zo hfi ?_ (hs := by exact .cons (.refl (x := .agg A) hna) .nil)
      repeat (first|refine z2 ?_|refine z1 ?_|refine z3 ?_|refine z4 ?_|refine z5 ?_|refine z8 ?_|refine z9 ?_)
      refine al_pick rfl rfl rfl (r := .v (.bool true)) rfl rfl rfl ?_
      repeat (first|refine z2 ?_|refine z1 ?_|refine z3 ?_|refine z4 ?_|refine z5 ?_)
      exact le_sub ⟨rfl, trivial⟩ rfl rfl
    refine awp_cond rfl (fun _ => ?_) (fun h => absurd h (by decide))
    repeat (first|refine z2 ?_|refine z1 ?_|refine z3 ?_|refine z4 ?_|refine z5 ?_)
    refine zc (hkn) ?_
    repeat (first|refine z2 ?_|refine z1 ?_|refine z3 ?_|refine z4 ?_|refine z5 ?_)
    (exact awp_ret ⟨.inl rfl, ret_one rfl (.refl (by first | trivial | exact nrl_u64s _))⟩)
end Go.Proofs.YtlbhgejbfhhipaaGreatDoor

/- What the rows of this program share: the listed variables, a world that holds them, and how the arguments read. -/
namespace Go.Proofs.YtlbhgejbfhhipaaGreatDoor
open Go Go.Am Go.Lib Go.Sp Z1 Z2 Z3 Z4 Z5 Z6
theorem ownK : ownKnob Tryz.prog.godebug = none := by kernel_rfl
theorem laidO : laidOutB Tryz.prog = true := by kernel_rfl
theorem glS : Tryz.prog.globalNamed "strconv.ErrSyntax" = some 0 := by kernel_rfl
theorem glR : Tryz.prog.globalNamed "strconv.ErrRange" = some 1 := by kernel_rfl
theorem glP : Tryz.prog.globalNamed "internal/strconv.uint64pow10" = some 3 := by kernel_rfl
theorem gtS : (Tryz.prog.globals[0]?).map (·.type) = some 155 := by kernel_rfl
theorem gtR : (Tryz.prog.globals[1]?).map (·.type) = some 155 := by kernel_rfl
theorem gtP : (Tryz.prog.globals[3]?).map (·.type) = some 313 := by kernel_rfl
abbrev laidL : List (String × DataW Unit) := [("math/bits.deBruijn32tab", Rows.laid_math_bits_deBruijn32tab), ("math/bits.deBruijn64tab", Rows.laid_math_bits_deBruijn64tab), ("internal/strconv.uint64pow10", Rows.laid_internal_strconv_uint64pow10), ("strconv.ErrRange", Rows.laid_strconv_ErrRange), ("strconv.ErrSyntax", Rows.laid_strconv_ErrSyntax)]
theorem met_tail {P : Program} {w : World} {x : String × DataW Unit} {l : List (String × DataW Unit)} (h : laidMet P (x :: l) w) : laidMet P l w := by
  obtain ⟨ps, ⟨g, t, cs, fuel, p, q, _, _, _, _, hq, rfl⟩, hn, hc⟩ := h
  exact ⟨q, hq, (List.nodup_append.1 hn).2.1, fun b off hp => hc b off (List.mem_append_right _ hp)⟩
theorem met_iface {P : Program} {w : World} {n : String} {s : String} {d : DataW Unit} {l : List (String × DataW Unit)} {g : Nat} {t : TypeId} {ms : Array (String × TypeId)} (hg : P.globalNamed n = some g) (hgt : (P.globals[g]?).map (·.type) = some t) (ht : P.underlying t = some (.interface ms)) (h : laidMet P ((n, .iface s d) :: l) w) : ∃ u v, w.var? P n = some #[.iface u v] := by
  obtain ⟨ps, ⟨g', t', cs, fuel, p, q, hg', ht', hv, hd, _, _⟩, _⟩ := h
  obtain rfl := Option.some.inj (hg.symm.trans hg')
  obtain rfl := Option.some.inj (hgt.symm.trans ht')
  obtain ⟨_, u, v, hc, _⟩ := iface_of_trod ht hd
  refine ⟨u, v, ?_⟩
  rw [hv]
  congr 1
  cases cs; simp at hc; simp [hc]
set_option maxRecDepth 100000 in
theorem lai_of {w : World} (h : laidMetH Tryz.prog laidL w) : (laiOf Tryz.prog).L w := by
  have h1 : laidMet Tryz.prog laidL w := h
  have h2 : laidMet Tryz.prog (("internal/strconv.uint64pow10", Rows.laid_internal_strconv_uint64pow10) :: ("strconv.ErrRange", Rows.laid_strconv_ErrRange) :: ("strconv.ErrSyntax", Rows.laid_strconv_ErrSyntax) :: []) w := met_tail (met_tail h1)
  have e : (Rows.laid_internal_strconv_uint64pow10 : DataW Unit) = Lib.tabData .u64 Lib.pow10Tab := by kernel_rfl
  rw [e] at h2
  exact ⟨tabIs_of_head glP gtP Tryz.underlying313 Tryz.underlying12 (by kernel_rfl) (by kernel_rfl) h2, met_iface glS gtS Tryz.underlying155 (met_tail (met_tail h2)), met_iface glR gtR Tryz.underlying155 (met_tail h2)⟩
theorem size_of {w : World} (h : w.ShapedOpen Tryz.prog) : (laiOf Tryz.prog).G ≤ w.heap.size := by
  have hlt : Tryz.prog.globals.size < (begin Tryz.prog (fun _ _ => 0) default).world.heap.size := Nat.le_of_ble_eq_true (by kernel_rfl)
  obtain ⟨o, _, ho, _⟩ := h.2 _ (Nat.le_refl _) hlt
  have := (Array.getElem?_eq_some_iff.1 ho).1
  show Tryz.prog.globals.size ≤ _
  omega
/-- A world for the witnesses: the settled one with two blocks more, the five variables holding what their initialisers lay. -/
noncomputable def laidWorld (os : Os) : World :=
  let N := (World.settled Tryz.prog os).heap.size
  let w0 := World.holding Tryz.prog os ⟨#[.cells #[.string ⟨#[118, 97, 108, 117, 101, 32, 111, 117, 116, 32, 111, 102, 32, 114, 97, 110, 103, 101]⟩] 328, .cells #[.string ⟨#[105, 110, 118, 97, 108, 105, 100, 32, 115, 121, 110, 116, 97, 120]⟩] 328], #[], []⟩
  let put (h : Array Obj) (g : Nat) (cs : Array Value) : Array Obj := h.modify g fun
    | .cells _ t frozen => .cells cs t frozen
    | o => o
  let tab (k : IntKind) (d : DataW Unit) : Array Value := match d with
    | .agg l => (l.map fun x => match x with | .lit (.int _ n) => Value.int k n | _ => undef).toArray
    | _ => #[]
  let h1 := put w0.heap 4 (tab .u8 Rows.laid_math_bits_deBruijn32tab)
  let h2 := put h1 5 (tab .u8 Rows.laid_math_bits_deBruijn64tab)
  let h3 := put h2 3 (tab .u64 Rows.laid_internal_strconv_uint64pow10)
  let h4 := put h3 1 #[.iface 326 (.pointer (some ⟨N, 0, none⟩))]
  let h5 := put h4 0 #[.iface 326 (.pointer (some ⟨N + 1, 0, none⟩))]
  { w0 with heap := h5 }
theorem laid_met (os : Os) (args : Array Value) : laidMet Tryz.prog laidL ((laidWorld os).forCall (fun _ _ => 0) ⟨#[], args, []⟩).memory :=
  (LaidIn.of_run (l := laidL) [0, 1, 3, 4, 5, (World.settled Tryz.prog default).heap.size, (World.settled Tryz.prog default).heap.size + 1] 8 (by kernel_rfl) (by kernel_rfl) (by kernel_rfl) (by kernel_rfl)).met
end Go.Proofs.YtlbhgejbfhhipaaGreatDoor

/- How the arguments of the statements read; what a statement's call leaves. -/
namespace Go.Proofs.YtlbhgejbfhhipaaGreatDoor
open Go Go.Am Go.Lib Go.Sp Z1 Z2 Z3 Z4 Z5 Z6
open Go.ChangeShapes Go.WideShapes Go.ChangeAt Go.RowKit
section
variable {H : Type} {enc : TypeId × Value → H} {w : World}
theorem rds_to {α β : Type} {P : Program} {t : TypeId} {f : α → List AV} {Q : α → Prop} {g : β → List AV} {R : β → Prop} (h : Rds enc P w t f Q) (k : ∀ x, Q x → ∃ y, R y ∧ f x = g y) : Rds enc P w t g R := by
  intro fuel cs d hd
  obtain ⟨x, hq, hv⟩ := h fuel cs d hd
  obtain ⟨y, hr, e⟩ := k x hq
  exact ⟨y, hr, by rw [← e]; exact hv⟩
theorem flat_one {α : Type} (f : α → AV) : ∀ X : List α, (X.map fun x => [f x]).flatten = X.map f
  | [] => rfl
  | x :: X => by rw [List.map_cons, List.flatten_cons, flat_one f X]; rfl
theorem rd_row (t : TypeId) (ht : Tryz.prog.underlying t = some (.slice 3)) : Rds enc Tryz.prog w t (fun X : List Int => [rowS X]) (fun X => small64L X ∧ X.length ≤ 9223372036854775807) :=
  rds_to (rds_slice (sz := 1) ht (by kernel_rfl) (fun _ _ => rfl) (rds_int (k := .i64) Tryz.underlying3)) (fun X h => ⟨X, ⟨fun z hz => h.1 z hz, h.2⟩, by rw [flat_one]; rfl⟩)
theorem rd_rw : Rds enc Tryz.prog w 92 rwC okRw :=
  rds_to (rds_array (n := 4) (sz := 1) Tryz.underlying92 (by kernel_rfl) (by kernel_rfl) (rds_int (k := .i8) Tryz.underlying25)) (fun X h => ⟨X, ⟨h.1, fun z hz => h.2 z hz⟩, by rw [flat_one]; rfl⟩)
theorem rd_part : Rds enc Tryz.prog w 27 partC okPart :=
  rds_to (rds_struct2 Tryz.underlying27 rfl rfl (by kernel_rfl) (by kernel_rfl) (rds_int (k := .i8) Tryz.underlying25) (rds_int (k := .u8) Tryz.underlying5)) (fun x h => ⟨x, ⟨h.1, h.2⟩, rfl⟩)
theorem flat_pts : ∀ X : List (Int × Int), (X.map partC).flatten = ptsC X
  | [] => rfl
  | x :: X => by rw [List.map_cons, List.flatten_cons, flat_pts X]; rfl
theorem rd_pts : Rds enc Tryz.prog w 29 ptsC okPts :=
  rds_to (rds_array (n := 4) (sz := 2) Tryz.underlying29 (by kernel_rfl) (by kernel_rfl) rd_part) (fun X h => ⟨X, h, flat_pts X⟩)
theorem rd_gns : Rds enc Tryz.prog w 30 gnsC okGns :=
  rds_to (rds_array (n := 4) (sz := 8) Tryz.underlying30 (by kernel_rfl) (by kernel_rfl) rd_pts) (fun X h => ⟨X, h, rfl⟩)
theorem rd_pln : Rds enc Tryz.prog w 24 (fun x : Int × List (List Int) × Bool => plnC x.1 x.2.1 x.2.2) (fun x => (0 ≤ x.1 ∧ x.1 ≤ 255) ∧ ∀ r ∈ x.2.1, okRw r) :=
  rds_to (rds_struct3 Tryz.underlying24 rfl rfl (by kernel_rfl) (by kernel_rfl) (by kernel_rfl) (rds_int (k := .u8) Tryz.underlying5)
    (rds_slice (sz := 4) Tryz.underlying22 (by kernel_rfl) (fun x h => by show (rwC x).length = 4; unfold rwC; rw [List.length_map]; exact h.1) rd_rw) (rds_bool Tryz.underlying4)) (fun x h => ⟨x, ⟨h.1, h.2.1.1⟩, rfl⟩)
theorem rd_plan : Rds enc Tryz.prog w 32 Plan.av Plan.In :=
  rds_to (rds_struct2 Tryz.underlying32 rfl rfl (by kernel_rfl) (by kernel_rfl) rd_pln rd_gns) (fun x h => ⟨⟨x.1.1, x.1.2.1, x.1.2.2, x.2⟩, ⟨h.1.1, h.1.2, h.2⟩, rfl⟩)
set_option maxRecDepth 100000 in
theorem arg_plan {v : Value} {d : DataW H} {ps : List MemPlace} {base : Nat} (hv : Value.okWide Tryz.prog w .any base 32 v) (h : DataW.Trod enc Tryz.prog w 0 (fun _ => true) true 32 v d ps) : ∃ q : Plan, q.In ∧ V w (fun b => b < w.heap.size) [] (.agg q.av) v :=
  arg_agg rd_plan Tryz.underlying32 rfl hv h
set_option maxRecDepth 100000 in
theorem arg_row {v : Value} {d : DataW H} {ps : List MemPlace} {base : Nat} (hv : Value.okWide Tryz.prog w .any base 34 v) (h : DataW.Trod enc Tryz.prog w 0 (fun _ => true) true 34 v d ps) : ∃ x : List Int, (small64L x ∧ x.length ≤ 9223372036854775807) ∧ V w (fun b => b < w.heap.size) [] (rowS x) v :=
  arg_one (rd_row 34 Tryz.underlying34) Tryz.underlying34 rfl hv h
theorem trods_stay {base : Nat} {W W' : World} {sp : Nat → Bool} (hsame : ∀ p : MemPlace, p.block < W.heap.size → W.sameAt W' p) : ∀ {ts : List TypeId} {vs : List Value} {ds : List (DataW H)} {ps : List MemPlace}, (∀ t ∈ ts, Tryz.prog.readableRec t = true ∧ t < Tryz.prog.types.size) →
    DataW.TrodAll enc Tryz.prog W base (fun _ => true) true ts vs ds ps → (∀ p ∈ ps, p.block < W.heap.size) → (∀ p ∈ ps, sp p.block = true) → DataW.TrodAll enc Tryz.prog W' base sp true ts vs ds ps
  | [], _, _, _, _, h, _, _ => by
    obtain ⟨rfl, rfl, rfl⟩ := trodAll_nil h
    exact rfl
  | t :: ts, _, _, _, ht, h, h1, h2 => by
    obtain ⟨v, vs, d, ds, a, b, rfl, rfl, rfl, g1, g2⟩ := trodAll_cons h
    exact ⟨a, b, WideElems.Trod_stays laidO (ht t (by simp)).1 (ht t (by simp)).2 g1 (fun p hp => hsame p (h1 p (by simp [hp]))) (fun p hp => h2 p (by simp [hp])), trods_stay hsame (fun t ht' => ht t (by simp [ht'])) g2 (fun p hp => h1 p (by simp [hp])) (fun p hp => h2 p (by simp [hp])), rfl⟩
/-- A statement's call: true came back, and nothing that was there is turned. -/
theorem law_done {f : Func} {s : ChangeSpec} {W W' : World} {args : Array Value} {v : Value} {ds gs : List (DataW H)} {before : List MemPlace} (hs : s.vars = []) (hrt : f.resultTypes = #[4]) (hfn : s.fn H (ds ++ []) = { results := [.lit (.bool true)], args := ds })
    (hpar : ∀ t ∈ f.params.toList, Tryz.prog.readableRec t = true ∧ t < Tryz.prog.types.size) (hW : DataW.Whole enc Tryz.prog f.params.toList s.vars false W args.toList ds gs before) (hv : v = .bool true) (hF : Frm (fun _ => False) W W') : s.post enc Tryz.prog f false true false false W args v W' := by
  have hlt := hW.lt
  have hW' := hW
  obtain ⟨p, q, hA, hV, rfl, _, _⟩ := hW
  rw [hs] at hV
  obtain ⟨rfl, rfl⟩ := trodVars_none hV
  have hB : Below W.heap.size W W' := ⟨hF.os, hF.tape, hF.output, hF.size, fun k hk => hF.block k hk id⟩
  subst hv
  refine ⟨ds, [], _, [], p, [], hW', ?_, ?_, ?_, hB.frame _, fun h => by cases h⟩
  · rw [hfn, hrt]; exact trodAll_mk1 (shut_bool Tryz.underlying4 _)
  · rw [hfn]
    simp only [List.append_nil] at hlt
    exact trods_stay (fun p hp => hB.same hp) hpar hA hlt (fun p hp => by simpa using hlt p hp)
  · rw [hfn, hs]; rfl
end
/-- What a contract of a statement's function gives. -/
theorem law_calls {f : Nat} {args : List AV} {us : List Value} {W : World} (h : OkP (laiOf Tryz.prog) Tryz.prog f args (.v (.bool true))) (hL : laidMetH Tryz.prog laidL W) (hS : W.ShapedOpen Tryz.prog) (hv : Vl W (fun b => b < W.heap.size) [] args us) :
    Calls Tryz.prog f us.toArray W fun e W' => e = .returned (.bool true) ∧ Frm (fun _ => False) W W' := by
  refine (h.call W (fun b => b < W.heap.size) us (lai_of hL) (size_of hS) (fun _ h => h) hv).mono fun e W' he => ?_
  obtain ⟨v, rfl, hV, hF⟩ := he
  simp only [V] at hV
  exact ⟨by rw [hV], hF⟩
end Go.Proofs.YtlbhgejbfhhipaaGreatDoor
