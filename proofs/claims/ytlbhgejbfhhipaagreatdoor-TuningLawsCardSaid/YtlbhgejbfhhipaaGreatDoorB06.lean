/- Own lemmas, part 6: an abstract machine for walks, plain facts on numbers and lattices, walks of the functions of the program: SpQ Fr Fs Ft. -/
import Derived.Test.YtlbhgejbfhhipaaGreatDoorB05
/- At most three rows of small numbers, at most four columns: bounds by rank. No program in sight. -/
namespace Go.Sp
def S1 (n : Nat) (u v z x : Nat → Int) : Prop := supp n x ∧ dotN u x n = 0 ∧ dotN v x n = 0 ∧ dotN z x n = 0
def S2 (n : Nat) (u v z x : Nat → Int) : Prop := supp n x ∧ ∀ y, S1 n u v z y → dotN y x n = 0
def Both (n : Nat) (u v z : Nat → Int) : Prop := Fine n (S1 n u v z) ∧ Fine n (S2 n u v z)
theorem Fine.congr {n : Nat} {S T : (Nat → Int) → Prop} (h : Fine n S) (e : ∀ x, S x ↔ T x) : Fine n T := fun P R hP hR hs => h P R hP hR (fun x => (hs x).trans (e x).symm)
theorem S2.congr {n : Nat} {u v z u' v' z' : Nat → Int} (e : ∀ x, S1 n u v z x ↔ S1 n u' v' z' x) (x : Nat → Int) : S2 n u v z x ↔ S2 n u' v' z' x := ⟨fun h => ⟨h.1, fun y hy => h.2 y ((e y).2 hy)⟩, fun h => ⟨h.1, fun y hy => h.2 y ((e y).1 hy)⟩⟩
theorem Both.congr {n : Nat} {u v z u' v' z' : Nat → Int} (h : Both n u v z) (e : ∀ x, S1 n u v z x ↔ S1 n u' v' z' x) : Both n u' v' z' := ⟨h.1.congr e, h.2.congr (S2.congr e)⟩
theorem Both.swap {n : Nat} {u v z : Nat → Int} (h : Both n u v z) : Both n v u z := h.congr (fun _ => ⟨fun a => ⟨a.1, a.2.2.1, a.2.1, a.2.2.2⟩, fun a => ⟨a.1, a.2.2.1, a.2.1, a.2.2.2⟩⟩)
theorem Both.rot {n : Nat} {u v z : Nat → Int} (h : Both n u v z) : Both n v z u := h.congr (fun _ => ⟨fun a => ⟨a.1, a.2.2.1, a.2.2.2, a.2.1⟩, fun a => ⟨a.1, a.2.2.2, a.2.1, a.2.2.1⟩⟩)
def GoodN (n : Nat) (u v z : Nat → Int) (N : List (Nat → Int)) : Prop := (∀ w ∈ N, S1 n u v z w) ∧ (∀ x, S1 n u v z x → ∃ c : Int, c ≠ 0 ∧ SpanF N (fun j => c * x j)) ∧ (∀ x, S2 n u v z x → ∃ c α β γ : Int, c ≠ 0 ∧ ∀ j, c * x j = α * u j + β * v j + γ * z j)
theorem spanF_one {w x : Nat → Int} (h : SpanF [w] x) : ∃ k : Int, ∀ j, x j = k * w j := by
  induction h with
  | zero => exact ⟨0, fun j => by simp⟩
  | @add v a b k hv _ hb ih =>
    obtain ⟨m, e⟩ := ih
    rw [List.mem_singleton] at hv
    subst hv
    exact ⟨m + k, fun j => by rw [hb j, e j, Int.add_mul]⟩
theorem spanF_nil {x : Nat → Int} (h : SpanF [] x) : ∀ j, x j = 0 := fun _ => h.none (fun v hv => by cases hv)
theorem dotN_scale {f g x : Nat → Int} {k m : Int} (h : ∀ j, k * f j = m * g j) : ∀ n, k * dotN f x n = m * dotN g x n
  | 0 => by simp [dotN]
  | n + 1 => by
    rw [dotN, dotN, Int.mul_add, Int.mul_add, dotN_scale h n, ← Int.mul_assoc, ← Int.mul_assoc, h n]
def ev1 (i t : Nat) : Int := if t = i then 1 else 0
theorem unit_span {n : Nat} {x : Nat → Int} (hx : supp n x) : SpanF ((List.range n).map ev1) x := by
  refine (spanF_dot (y := ev1) x (fun j hj => .inl (List.mem_map.2 ⟨j, List.mem_range.2 hj, rfl⟩)) n (Nat.le_refl n)).ext (fun t => ?_)
  have h1 := dotN_only (f := x) (g := fun j => ev1 j t) (c := t) (fun j hj => by show x j * (if t = j then 1 else 0) = 0; rw [if_neg (fun e => hj e.symm), Int.mul_zero]) n
  rw [h1]
  by_cases h : t < n
  · rw [if_pos h]; show x t = x t * (if t = t then 1 else 0); rw [if_pos rfl, Int.mul_one]
  · rw [if_neg h, hx t (by omega)]
theorem fine_all {n : Nat} {S : (Nat → Int) → Prop} (hn : n < 5) (hS : ∀ x, S x ↔ supp n x) : Fine n S :=
  fine_few (N := (List.range n).map ev1) (b := 1) (fun v hv => by
    obtain ⟨i, hi, rfl⟩ := List.mem_map.1 hv
    have := List.mem_range.1 hi
    exact (hS _).2 (fun j hj => by show (if j = i then 1 else 0) = 0; rw [if_neg (by omega)])) (fun v hv j => by
    obtain ⟨i, hi, rfl⟩ := List.mem_map.1 hv
    show (if j = i then (1 : Int) else 0).natAbs ≤ 1
    split <;> decide) (fun x hx => ⟨1, by decide, (unit_span ((hS x).1 hx)).ext (fun j => by rw [Int.one_mul])⟩) (by
    rw [List.length_map, List.length_range]
    have : n = 0 ∨ n = 1 ∨ n = 2 ∨ n = 3 ∨ n = 4 := by omega
    rcases this with rfl | rfl | rfl | rfl | rfl <;> decide)
theorem t4374 {k : Nat} (h : k ≤ 1) : TB 4374 k ≤ 10000000 := by
  have : k = 0 ∨ k = 1 := by omega
  rcases this with rfl | rfl <;> decide
theorem t162 {k : Nat} (h : k ≤ 2) : TB 162 k ≤ 10000000 := by
  have : k = 0 ∨ k = 1 ∨ k = 2 := by omega
  rcases this with rfl | rfl | rfl <;> decide
theorem good_on {n : Nat} {u v z : Nat → Int} {D : Int} {a b c : Nat} {A B C : Nat → Int} (J : List Nat) (hD : D ≠ 0) (ha : a < n) (hb : b < n) (hc : c < n) (hJ : ∀ j, j < n → j ∈ J ∨ ∀ t, yv D a b c A B C j t = 0) (hJn : ∀ j ∈ J, j < n)
    (hu : ∀ j, D * u j = A j * u a + B j * u b + C j * u c) (hv : ∀ j, D * v j = A j * v a + B j * v b + C j * v c) (hz : ∀ j, D * z j = A j * z a + B j * z b + C j * z c)
    (hA : ∃ p q r, ∀ j, A j = p * u j + q * v j + r * z j) (hB : ∃ p q r, ∀ j, B j = p * u j + q * v j + r * z j) (hC : ∃ p q r, ∀ j, C j = p * u j + q * v j + r * z j)
    (u0 : ∀ j, n ≤ j → u j = 0) (v0 : ∀ j, n ≤ j → v j = 0) (z0 : ∀ j, n ≤ j → z j = 0) : GoodN n u v z (J.map (yv D a b c A B C)) := by
  obtain ⟨p1, q1, r1, hA⟩ := hA
  obtain ⟨p2, q2, r2, hB⟩ := hB
  obtain ⟨p3, q3, r3, hC⟩ := hC
  have hN : ∀ w ∈ J.map (yv D a b c A B C), S1 n u v z w := fun w hw => by
    obtain ⟨j, hj, rfl⟩ := List.mem_map.1 hw
    have hjn := hJn j hj
    refine ⟨fun t ht => ?_, ?_, ?_, ?_⟩
    · unfold yv; rw [if_neg (by omega), if_neg (by omega), if_neg (by omega), if_neg (by omega)]; rfl
    · rw [dot_yv u ha hb hc hjn, hu j]; omega
    · rw [dot_yv v ha hb hc hjn, hv j]; omega
    · rw [dot_yv z ha hb hc hjn, hz j]; omega
  refine ⟨hN, fun x hx => ?_, fun x hx => ?_⟩
  · obtain ⟨hx, h1, h2, h3⟩ := hx
    refine ⟨D, hD, (spanF_dot (N := J.map (yv D a b c A B C)) (y := yv D a b c A B C) x (fun j hj => ?_) n (Nat.le_refl n)).ext (fun t => ?_)⟩
    · rcases hJ j hj with h | h
      · exact .inl (List.mem_map.2 ⟨j, h, rfl⟩)
      · exact .inr h
    · rw [dotN_comm] at h1 h2 h3
      have e1 := dotN_three (x := x) hA n
      have e2 := dotN_three (x := x) hB n
      have e3 := dotN_three (x := x) hC n
      rw [h1, h2, h3] at e1 e2 e3
      exact (dot_yv2 x (by rw [e1]; simp) (by rw [e2]; simp) (by rw [e3]; simp) (hx t)).symm
  · obtain ⟨hx, hw2⟩ := hx
    have hw : ∀ w ∈ J.map (yv D a b c A B C), dotN w x n = 0 := fun w hw => hw2 w (hN w hw)
    refine ⟨D, p1 * x a + p2 * x b + p3 * x c, q1 * x a + q2 * x b + q3 * x c, r1 * x a + r2 * x b + r3 * x c, hD, fun j => ?_⟩
    rcases Nat.lt_or_ge j n with hj | hj
    · have h0 : D * x j = A j * x a + B j * x b + C j * x c := by
        have hd : dotN x (yv D a b c A B C j) n = 0 := by
          rcases hJ j hj with h | h
          · rw [dotN_comm]; exact hw _ (List.mem_map.2 ⟨j, h, rfl⟩)
          · rw [show yv D a b c A B C j = fun _ => 0 from funext h, dotN_zero]
        rw [dot_yv x ha hb hc hj] at hd
        omega
      rw [h0, hA j, hB j, hC j]
      grind
    · rw [hx j hj, u0 j hj, v0 j hj, z0 j hj]; simp
/-- Rank 3. -/
theorem both3 {n : Nat} {u v z : Nat → Int} (hn : n < 5) (hu : sm n u) (hv : sm n v) (hz : sm n z) {a b c : Nat} (hD : d3 u v z a b c ≠ 0) : Both n u v z := by
  have hlt : ∀ i, (u i = 0 → v i = 0 → z i = 0 → False) → i < n := fun i h => by
    rcases Nat.lt_or_ge i n with h1 | h1
    · exact h1
    · exact absurd (h (hu.1 i h1) (hv.1 i h1) (hz.1 i h1)) id
  have ha := hlt a (fun h1 h2 h3 => hD (by unfold d3; rw [h1, h2, h3]; simp))
  have hb := hlt b (fun h1 h2 h3 => hD (by unfold d3 d2; rw [h1, h2, h3]; grind))
  have hc := hlt c (fun h1 h2 h3 => hD (by unfold d3 d2; rw [h1, h2, h3]; grind))
  have hab : a ≠ b := fun e => hD (by subst e; unfold d3 d2; grind)
  have hac : a ≠ c := fun e => hD (by subst e; unfold d3 d2; grind)
  have hbc : b ≠ c := fun e => hD (by subst e; unfold d3 d2; grind)
  have hJ : ∀ j, j < n → j ∈ ((List.range n).filter fun j => decide (j ≠ a ∧ j ≠ b ∧ j ≠ c)) ∨ ∀ t, yv (d3 u v z a b c) a b c (fun j => d3 u v z j b c) (fun j => d3 u v z a j c) (fun j => d3 u v z a b j) j t = 0 := fun j hj => by
    rcases Classical.em (j ≠ a ∧ j ≠ b ∧ j ≠ c) with h | h
    · exact .inl (List.mem_filter.2 ⟨List.mem_range.2 hj, decide_eq_true h⟩)
    · refine .inr (fun t => ?_)
      have : j = a ∨ j = b ∨ j = c := by omega
      have z1 : ∀ i k, d3 u v z i i k = 0 := fun i k => by unfold d3 d2; grind
      have z2 : ∀ i k, d3 u v z i k i = 0 := fun i k => by unfold d3 d2; grind
      have z3 : ∀ i k, d3 u v z k i i = 0 := fun i k => by unfold d3 d2; grind
      unfold yv
      rcases this with rfl | rfl | rfl
      · simp only [z1, z2]; split <;> simp
      · simp only [z1, z3]; split <;> simp
      · simp only [z2, z3]; split <;> simp
  have hB : ∀ j ∈ ((List.range n).filter fun j => decide (j ≠ a ∧ j ≠ b ∧ j ≠ c)), ∀ t, (yv (d3 u v z a b c) a b c (fun j => d3 u v z j b c) (fun j => d3 u v z a j c) (fun j => d3 u v z a b j) j t).natAbs ≤ 4374 := fun j hj t => by
    have h := of_decide_eq_true (List.mem_filter.1 hj).2
    have l1 := d3_le hu hv hz a b c
    have l2 := d3_le hu hv hz j b c
    have l3 := d3_le hu hv hz a j c
    have l4 := d3_le hu hv hz a b j
    simp only [yv]
    by_cases t1 : t = j
    · rw [if_pos t1, if_neg (by omega), if_neg (by omega), if_neg (by omega)]; omega
    · rw [if_neg t1]
      by_cases t2 : t = a
      · rw [if_pos t2, if_neg (by omega), if_neg (by omega)]; omega
      · rw [if_neg t2]
        by_cases t3 : t = b
        · rw [if_pos t3, if_neg (by omega)]; omega
        · rw [if_neg t3]
          split <;> omega
  have hG := good_on (D := d3 u v z a b c) (a := a) (b := b) (c := c) (A := fun j => d3 u v z j b c) (B := fun j => d3 u v z a j c) (C := fun j => d3 u v z a b j) ((List.range n).filter fun j => decide (j ≠ a ∧ j ≠ b ∧ j ≠ c)) hD ha hb hc hJ (fun j hj => List.mem_range.1 (List.mem_filter.1 hj).1)
    (fun j => by unfold d3 d2; grind) (fun j => by unfold d3 d2; grind) (fun j => by unfold d3 d2; grind) (⟨d2 v z b c, -d2 u z b c, d2 u v b c, fun j => by unfold d3 d2; grind⟩) (⟨-d2 v z a c, d2 u z a c, -d2 u v a c, fun j => by unfold d3 d2; grind⟩) (⟨d2 v z a b, -d2 u z a b, d2 u v a b, fun j => by unfold d3 d2; grind⟩) hu.1 hv.1 hz.1
  have hlen := cnt3 n hn a ha b hb c hc hab hac hbc
  obtain ⟨G1, G2, _⟩ := hG
  have hJd : ∀ j ∈ ((List.range n).filter fun j => decide (j ≠ a ∧ j ≠ b ∧ j ≠ c)), yv (d3 u v z a b c) a b c (fun j => d3 u v z j b c) (fun j => d3 u v z a j c) (fun j => d3 u v z a b j) j j = d3 u v z a b c := fun j hj => by
    have h := of_decide_eq_true (List.mem_filter.1 hj).2
    unfold yv
    rw [if_pos rfl, if_neg (by omega), if_neg (by omega), if_neg (by omega)]; omega
  generalize d3 u v z a b c = D at *
  generalize (List.range n).filter (fun j => decide (j ≠ a ∧ j ≠ b ∧ j ≠ c)) = J at *
  refine ⟨fine_few G1 (fun w hw t => ?_) G2 (by rw [List.length_map]; exact t4374 hlen), ?_⟩
  · obtain ⟨j, hj, rfl⟩ := List.mem_map.1 hw
    exact hB j hj t
  · match J, hlen with
    | [], _ =>
      refine fine_all (by omega) (fun x => ⟨fun h => h.1, fun h => ⟨h, fun y hy => ?_⟩⟩)
      obtain ⟨k, hk, hs⟩ := G2 y hy
      have h0 := spanF_nil hs
      have hy0 : y = fun _ => 0 := funext fun j => (Int.mul_eq_zero.1 (h0 j)).resolve_left hk
      rw [hy0, dotN_comm, dotN_zero]
    | [j], _ =>
      have hw := G1 _ (List.mem_map.2 ⟨j, by simp, rfl⟩)
      have hB := hB j (by simp)
      have hJd := hJd j (by simp)
      rw [List.map_cons, List.map_nil] at G2
      generalize yv D a b c (fun j => d3 u v z j b c) (fun j => d3 u v z a j c) (fun j => d3 u v z a b j) j = w at *
      refine fine_one (w := w) (B := 4374) (by omega) hw.1 ⟨j, by rw [hJd]; exact hD⟩ hB (by omega) (fun x => ⟨fun h => ⟨h.1, h.2 w hw⟩, fun h => ⟨h.1, fun y hy => ?_⟩⟩)
      obtain ⟨k, hk, hs⟩ := G2 y hy
      obtain ⟨m, e⟩ := spanF_one hs
      have h1 := dotN_scale (x := x) e n
      rw [h.2, Int.mul_zero] at h1
      exact (Int.mul_eq_zero.1 h1).resolve_left hk
/-- Rank 2. -/
theorem both2 {n : Nat} {u v z : Nat → Int} (hn : n < 5) (hu : sm n u) (hv : sm n v) (hz : sm n z) (h3 : ∀ i j k, d3 u v z i j k = 0) {a b : Nat} (hD : d2 u v a b ≠ 0) : Both n u v z := by
  have hlt : ∀ i, (u i = 0 → v i = 0 → False) → i < n := fun i h => by
    rcases Nat.lt_or_ge i n with h1 | h1
    · exact h1
    · exact absurd (h (hu.1 i h1) (hv.1 i h1)) id
  have ha := hlt a (fun h1 h2 => hD (by unfold d2; rw [h1, h2]; simp))
  have hb := hlt b (fun h1 h2 => hD (by unfold d2; rw [h1, h2]; simp))
  have hab : a ≠ b := fun e => hD (by subst e; unfold d2; grind)
  have hJ : ∀ j, j < n → j ∈ ((List.range n).filter fun j => decide (j ≠ a ∧ j ≠ b)) ∨ ∀ t, yv (d2 u v a b) a b a (fun j => d2 u v j b) (fun j => d2 u v a j) (fun _ => 0) j t = 0 := fun j hj => by
    rcases Classical.em (j ≠ a ∧ j ≠ b) with h | h
    · exact .inl (List.mem_filter.2 ⟨List.mem_range.2 hj, decide_eq_true h⟩)
    · refine .inr (fun t => ?_)
      have : j = a ∨ j = b := by omega
      have z1 : ∀ i, d2 u v i i = 0 := fun i => by unfold d2; grind
      unfold yv
      rcases this with rfl | rfl
      · simp only [z1]; split <;> simp
      · simp only [z1]; split <;> simp
  have hB : ∀ j ∈ ((List.range n).filter fun j => decide (j ≠ a ∧ j ≠ b)), ∀ t, (yv (d2 u v a b) a b a (fun j => d2 u v j b) (fun j => d2 u v a j) (fun _ => 0) j t).natAbs ≤ 162 := fun j hj t => by
    have h := of_decide_eq_true (List.mem_filter.1 hj).2
    have l1 := d2_le hu hv a b
    have l2 := d2_le hu hv j b
    have l3 := d2_le hu hv a j
    simp only [yv]
    by_cases t1 : t = j
    · rw [if_pos t1, if_neg (by omega), if_neg (by omega), if_neg (by omega)]; omega
    · rw [if_neg t1]
      by_cases t2 : t = a
      · rw [if_pos t2, if_neg (by omega), if_pos t2]; omega
      · rw [if_neg t2, if_neg t2]
        split <;> omega
  have hG := good_on (D := d2 u v a b) (a := a) (b := b) (c := a) (A := fun j => d2 u v j b) (B := fun j => d2 u v a j) (C := fun _ => 0) ((List.range n).filter fun j => decide (j ≠ a ∧ j ≠ b)) hD ha hb ha hJ (fun j hj => List.mem_range.1 (List.mem_filter.1 hj).1)
    (fun j => by unfold d2; grind) (fun j => by unfold d2; grind) (fun j => by have := h3 a b j; unfold d3 at this; unfold d2 at *; grind) (⟨v b, -u b, 0, fun j => by unfold d2; grind⟩) (⟨-v a, u a, 0, fun j => by unfold d2; grind⟩) ⟨0, 0, 0, fun j => by simp⟩ hu.1 hv.1 hz.1
  have hlen := cnt2 n hn a ha b hb hab
  obtain ⟨G1, G2, G3⟩ := hG
  refine ⟨fine_few G1 (fun w hw t => ?_) G2 (by rw [List.length_map]; exact t162 hlen), fine_few (N := [u, v]) (b := 9) (fun w hw => ?_) (fun w hw j => ?_) (fun x hx => ?_) (show TB 9 2 ≤ 10000000 by decide)⟩
  · obtain ⟨j, hj, rfl⟩ := List.mem_map.1 hw
    exact hB j hj t
  · simp at hw
    rcases hw with rfl | rfl
    · exact ⟨hu.1, fun y hy => by rw [dotN_comm]; exact hy.2.1⟩
    · exact ⟨hv.1, fun y hy => by rw [dotN_comm]; exact hy.2.2.1⟩
  · simp at hw
    rcases hw with rfl | rfl
    · exact hu.2 j
    · exact hv.2 j
  · obtain ⟨k, α, β, γ, hk, e⟩ := G3 x hx
    have hz3 : ∀ j, d2 u v a b * z j = (z a * v b - z b * v a) * u j + (z b * u a - z a * u b) * v j := fun j => by have := h3 a b j; unfold d3 at this; unfold d2 at *; grind
    refine ⟨d2 u v a b * k, fun h => (Int.mul_eq_zero.1 h).elim hD hk, .add (d2 u v a b * β + γ * (z b * u a - z a * u b)) (v := v) (by simp) (.add (d2 u v a b * α + γ * (z a * v b - z b * v a)) (v := u) (by simp) .zero (y := fun j => (d2 u v a b * α + γ * (z a * v b - z b * v a)) * u j) (fun j => by simp)) (fun j => ?_)⟩
    have e1 := e j
    have e2 := hz3 j
    generalize d2 u v a b = D at *
    grind
/-- Rank 1. -/
theorem both1 {n : Nat} {u v z : Nat → Int} (hn : n < 5) (hu : sm n u) (hv : sm n v) (hz : sm n z) (h2 : ∀ i j, d2 u v i j = 0) (h3 : ∀ i j, d2 u z i j = 0) {a : Nat} (hD : u a ≠ 0) : Both n u v z := by
  have ha : a < n := by
    rcases Nat.lt_or_ge a n with h1 | h1
    · exact h1
    · exact absurd (hu.1 a h1) hD
  have hJ : ∀ j, j < n → j ∈ ((List.range n).filter fun j => decide (j ≠ a)) ∨ ∀ t, yv (u a) a a a u (fun _ => 0) (fun _ => 0) j t = 0 := fun j hj => by
    rcases Classical.em (j ≠ a) with h | h
    · exact .inl (List.mem_filter.2 ⟨List.mem_range.2 hj, decide_eq_true h⟩)
    · refine .inr (fun t => ?_)
      have : j = a := by omega
      subst this
      unfold yv
      split <;> simp
  have hG := good_on (D := u a) (a := a) (b := a) (c := a) (A := u) (B := fun _ => 0) (C := fun _ => 0) ((List.range n).filter fun j => decide (j ≠ a)) hD ha ha ha hJ (fun j hj => List.mem_range.1 (List.mem_filter.1 hj).1)
    (fun j => by grind) (fun j => by have := h2 a j; unfold d2 at this; grind) (fun j => by have := h3 a j; unfold d2 at this; grind) ⟨1, 0, 0, fun j => by simp⟩ ⟨0, 0, 0, fun j => by simp⟩ ⟨0, 0, 0, fun j => by simp⟩ hu.1 hv.1 hz.1
  obtain ⟨_, _, G3⟩ := hG
  refine ⟨fine_one (w := u) (B := 9) (by omega) hu.1 ⟨a, hD⟩ hu.2 (by omega) (fun x => ⟨fun h => ⟨h.1, h.2.1⟩, fun h => ⟨h.1, h.2, ?_, ?_⟩⟩), fine_few (N := [u]) (b := 9) (fun w hw => ?_) (fun w hw j => ?_) (fun x hx => ?_) (show TB 9 1 ≤ 10000000 by decide)⟩
  · have h1 := dotN_scale (x := x) (f := v) (g := u) (k := u a) (m := v a) (fun j => by have := h2 a j; unfold d2 at this; grind) n
    rw [h.2, Int.mul_zero] at h1
    exact (Int.mul_eq_zero.1 h1).resolve_left hD
  · have h1 := dotN_scale (x := x) (f := z) (g := u) (k := u a) (m := z a) (fun j => by have := h3 a j; unfold d2 at this; grind) n
    rw [h.2, Int.mul_zero] at h1
    exact (Int.mul_eq_zero.1 h1).resolve_left hD
  · simp at hw
    subst hw
    exact ⟨hu.1, fun y hy => by rw [dotN_comm]; exact hy.2.1⟩
  · simp at hw
    subst hw
    exact hu.2 j
  · obtain ⟨k, α, β, γ, hk, e⟩ := G3 x hx
    refine ⟨u a * k, fun h => (Int.mul_eq_zero.1 h).elim hD hk, .add (u a * α + v a * β + z a * γ) (v := u) (by simp) .zero (fun j => ?_)⟩
    have e1 := e j
    have e2 := h2 a j
    have e3 := h3 a j
    unfold d2 at e2 e3
    have f2 : u a * v j = v a * u j := by grind
    have f3 : u a * z j = z a * u j := by grind
    grind
/-- Rank 0. -/
theorem both0 {n : Nat} {u v z : Nat → Int} (hn : n < 5) (hu : ∀ j, u j = 0) (hv : ∀ j, v j = 0) (hz : ∀ j, z j = 0) : Both n u v z := by
  have hd : ∀ {f : Nat → Int}, (∀ j, f j = 0) → ∀ x, dotN f x n = 0 := fun {f} h x => by
    rw [show f = fun _ => 0 from funext h, dotN_comm, dotN_zero]
  have hs : ∀ x, S1 n u v z x ↔ supp n x := fun x => ⟨fun h => h.1, fun h => ⟨h, hd hu x, hd hv x, hd hz x⟩⟩
  refine ⟨fine_all hn hs, fine_few (N := []) (b := 0) (fun w hw => by cases hw) (fun w hw => by cases hw) (fun x hx => ⟨1, by decide, SpanF.zero.ext (fun j => ?_)⟩) (show TB 0 0 ≤ 10000000 by decide)⟩
  rw [Int.one_mul]
  rcases Nat.lt_or_ge j n with h | h
  · have h1 := hx.2 (ev1 j) ((hs _).2 (fun t ht => by show (if t = j then (1 : Int) else 0) = 0; rw [if_neg (by omega)]))
    rw [dotN_only (c := j) (fun t ht => by show (if t = j then (1 : Int) else 0) * x t = 0; rw [if_neg ht, Int.zero_mul]) n, if_pos h] at h1
    have h2 : (if j = j then (1 : Int) else 0) * x j = 0 := h1
    rw [if_pos rfl, Int.one_mul] at h2
    exact h2
  · exact hx.1 j h
theorem both {n : Nat} {u v z : Nat → Int} (hn : n < 5) (hu : sm n u) (hv : sm n v) (hz : sm n z) : Both n u v z := by
  by_cases e3 : ∀ a b c, d3 u v z a b c = 0
  · by_cases e1 : ∀ a b, d2 u v a b = 0
    · by_cases e2 : ∀ a b, d2 u z a b = 0
      · by_cases e4 : ∀ a b, d2 v z a b = 0
        · by_cases f1 : ∀ a, u a = 0
          · by_cases f2 : ∀ a, v a = 0
            · by_cases f3 : ∀ a, z a = 0
              · exact both0 hn f1 f2 f3
              · obtain ⟨a, ha⟩ := Classical.not_forall.1 f3
                exact (both1 hn hz hu hv (fun i j => by rw [d2_swap, e2]; rfl) (fun i j => by rw [d2_swap, e4]; rfl) ha).rot
            · obtain ⟨a, ha⟩ := Classical.not_forall.1 f2
              exact (both1 hn hv hz hu e4 (fun i j => by rw [d2_swap, e1]; rfl) ha).rot.rot
          · obtain ⟨a, ha⟩ := Classical.not_forall.1 f1
            exact both1 hn hu hv hz e1 e2 ha
        · obtain ⟨a, ha⟩ := Classical.not_forall.1 e4
          obtain ⟨b, hb⟩ := Classical.not_forall.1 ha
          exact (both2 hn hv hz hu (fun i j k => by have := e3 i j k; unfold d3 d2 at *; grind) hb).rot.rot
      · obtain ⟨a, ha⟩ := Classical.not_forall.1 e2
        obtain ⟨b, hb⟩ := Classical.not_forall.1 ha
        exact (both2 hn hu hz hv (fun i j k => by have := e3 i j k; unfold d3 d2 at *; grind) hb).swap.rot
    · obtain ⟨a, ha⟩ := Classical.not_forall.1 e1
      obtain ⟨b, hb⟩ := Classical.not_forall.1 ha
      exact both2 hn hu hv hz e3 hb
  · obtain ⟨a, ha⟩ := Classical.not_forall.1 e3
    obtain ⟨b, hb⟩ := Classical.not_forall.1 ha
    obtain ⟨c, hc⟩ := Classical.not_forall.1 hb
    exact both3 hn hu hv hz hc
theorem kern_small7 {n : Nat} {M : List (List Int)} (hn : n ≤ 4) (hM : Rect n M) (hm : M.length ≤ 3) (hb : ∀ r ∈ M, ∀ z ∈ r, z.natAbs ≤ 9) : small7 (kernM n (formM n M)) ∧ small7 (kernM n (kernM n (formM n M))) := by
  obtain ⟨u, v, z, t⟩ := trio hM hm hb
  obtain ⟨_, _, hs⟩ := formM_ok hM
  obtain ⟨⟨P, hP⟩, hR, hK⟩ := kernM_ok (n := n) (M := formM n M)
  obtain ⟨⟨P2, hP2⟩, hR2, hK2⟩ := kernM_ok (n := n) (M := kernM n (formM n M))
  have hA : ∀ x, Span (kernM n (formM n M)) x ↔ S1 n u v z x := fun x => ((hK x).trans (ann_span hs x)).trans ⟨fun h => ⟨h.1, (t.ann x h.1).1 h⟩, fun h => (t.ann x h.1).2 h.2⟩
  obtain ⟨b1, b2⟩ := both (n := n) (by omega) t.su t.sv t.sz
  refine ⟨b1 P _ hP hR hA, b2 P2 _ hP2 hR2 (fun x => (hK2 x).trans ⟨fun h => ⟨h.1, fun y hy => h.span ((hA y).2 hy)⟩, fun h => ⟨h.1, fun r hr => h.2 _ ((hA _).1 (Span.row hr))⟩⟩)⟩
end Go.Sp

/- Plain facts: the tempered sizes of sums and of commas. -/
namespace Go.Proofs.YtlbhgejbfhhipaaGreatDoor
open Go Go.Am Go.Lib Go.Sp Z1 Z2 Z3 Z4 Z5 Z6
theorem Plan.Ok.small {q : Plan} (h : q.Ok) : ∀ r ∈ q.Mp, bndL 10000000 r := by
  have t := h.tiny
  obtain ⟨k1, k2⟩ := kern_small7 t.four t.rect t.three t.nine
  have key : small7 q.Mp := by
    unfold Plan.Mp mapM
    cases q.b
    · exact k1
    · exact k2
  intro r hr z hz
  obtain ⟨i, hi, rfl⟩ := List.getElem_of_mem hz
  have := key r hr i
  rwa [getD_at hi] at this
theorem dotK_dotN (x r : List Int) : ∀ k, dotK x r k = dotN (vec x) (vec r) k
  | 0 => rfl
  | k + 1 => by rw [dotK, dotN, dotK_dotN x r k, vec, vec]
theorem dots_comma {n : Nat} {C : List (List Int)} (hC : Rect n C) {c : List Int} (hc : c ∈ C) : ∀ z ∈ dots c (kernM n C), z = 0 := fun z hz => by
  obtain ⟨r, hr, rfl⟩ := List.mem_map.1 hz
  have h := ((kernM_ok (n := n) (M := C)).2.2 (vec r)).1 (Span.row hr)
  rw [dotK_dotN, hC c hc]
  exact h.2 c hc
theorem accR_zero {G : List (List Rat)} {zs : List Int} (h : ∀ z ∈ zs, z = 0) (c : Nat) : ∀ m, accR G (ratsL zs) c m = 0
  | 0 => rfl
  | m + 1 => by
    have hz : (ratsL zs).getD m 0 = 0 := by
      rw [rats_getD]
      rcases Nat.lt_or_ge m zs.length with hm | hm
      · rw [getD_at hm, h _ (List.getElem_mem hm)]; rfl
      · rw [List.getD_eq_getElem?_getD, List.getElem?_eq_none hm]; rfl
    rw [accR, accR_zero h c m, hz, Rat.mul_zero, Rat.add_zero]
theorem temS_zero {p x : List Int} {Mp : List (List Int)} {G : List (List Rat)} (h : ∀ z ∈ dots x Mp, z = 0) : temS p x Mp G = List.replicate p.length 0 := by
  apply List.ext_getElem (by rw [temS_len, List.length_replicate])
  intro c h1 h2
  have e : (temS p x Mp G)[c]'h1 = accR G (ratsL (dots x Mp)) c G.length := by simp [temS, combL]
  rw [e, accR_zero h, List.getElem_replicate]
theorem dotK_sum {x y r : List Int} {n : Nat} : ∀ k, k ≤ n → dotK (sumR x y n) r k = dotK x r k + dotK y r k
  | 0, _ => rfl
  | k + 1, h => by
    have e : (sumR x y n).getD k 0 = x.getD k 0 + y.getD k 0 := by
      rw [getD_at (by rw [sumR_len]; exact h)]
      simp [sumR]
    rw [dotK, dotK, dotK, dotK_sum k (by omega), e, Int.add_mul]
    omega
theorem dots_sum {x y : List Int} (hy : y.length = x.length) (Mp : List (List Int)) (i : Nat) : (dots (sumR x y x.length) Mp).getD i 0 = (dots x Mp).getD i 0 + (dots y Mp).getD i 0 := by
  rcases Nat.lt_or_ge i Mp.length with hi | hi
  · rw [getD_at (by rw [dots_len]; exact hi), getD_at (by rw [dots_len]; exact hi), getD_at (by rw [dots_len]; exact hi)]
    have g : ∀ (w : List Int) (hw : i < (dots w Mp).length), (dots w Mp)[i]'hw = dotK w Mp[i] w.length := fun w hw => by simp [dots]
    rw [g, g, g, sumR_len, hy]
    exact dotK_sum x.length (Nat.le_refl _)
  · rw [List.getD_eq_getElem?_getD, List.getElem?_eq_none (by rw [dots_len]; exact hi), List.getD_eq_getElem?_getD, List.getElem?_eq_none (by rw [dots_len]; exact hi), List.getD_eq_getElem?_getD, List.getElem?_eq_none (by rw [dots_len]; exact hi)]
    rfl
theorem accR_sum {G : List (List Rat)} {a b z : List Int} (h : ∀ i, z.getD i 0 = a.getD i 0 + b.getD i 0) (c : Nat) : ∀ m, accR G (ratsL z) c m = accR G (ratsL a) c m + accR G (ratsL b) c m
  | 0 => by rw [accR, accR, accR, Rat.add_zero]
  | m + 1 => by
    rw [accR, accR, accR, accR_sum h c m, rats_getD, rats_getD, rats_getD, h m, Rat.intCast_add, Rat.mul_add]
    generalize accR G (ratsL a) c m = A
    generalize accR G (ratsL b) c m = B
    generalize (G.getD m []).getD c 0 * ((a.getD m 0 : Int) : Rat) = X
    generalize (G.getD m []).getD c 0 * ((b.getD m 0 : Int) : Rat) = Y
    rw [Rat.add_assoc, Rat.add_assoc, ← Rat.add_assoc B, Rat.add_comm B, Rat.add_assoc X]
theorem temS_sum {p x y : List Int} {Mp : List (List Int)} {G : List (List Rat)} (hy : y.length = x.length) : temS p (sumR x y x.length) Mp G = combL [temS p x Mp G, temS p y Mp G] [1, 1] p.length 2 := by
  apply List.ext_getElem (by rw [temS_len, combL_len])
  intro c h1 h2
  have hc : c < p.length := by rw [temS_len] at h1; exact h1
  have e : ∀ (w : List Int) (hw : c < (temS p w Mp G).length), (temS p w Mp G)[c]'hw = accR G (ratsL (dots w Mp)) c G.length := fun w hw => by simp [temS, combL]
  have e2 : (combL [temS p x Mp G, temS p y Mp G] [1, 1] p.length 2)[c]'h2 = accR [temS p x Mp G, temS p y Mp G] [1, 1] c 2 := by simp [combL]
  rw [e, e2, accR_sum (fun i => dots_sum hy Mp i)]
  show _ = 0 + (temS p x Mp G).getD c 0 * 1 + (temS p y Mp G).getD c 0 * 1
  have g : ∀ w : List Int, (temS p w Mp G).getD c 0 = accR G (ratsL (dots w Mp)) c G.length := fun w => by
    have hw : c < (temS p w Mp G).length := by rw [temS_len]; exact hc
    rw [List.getD_eq_getElem?_getD, List.getElem?_eq_getElem hw, Option.getD_some, e w hw]
  rw [g, g, Rat.zero_add, Rat.mul_one, Rat.mul_one]
theorem short_sizAll {p : List Int} {a b : List Rat} (hp : primeChk p = 0) (ha : a.length = p.length ∧ ∀ q ∈ a, short30 q) (hb : b.length = p.length ∧ ∀ q ∈ b, short30 q) : sizAll p [a, b] = 0 := by
  have h := short_tunR (p := p) (Mp := [[], []]) (G := [a, b]) hp rfl (fun l hl => by
    simp at hl; rcases hl with rfl | rfl
    · exact ha
    · exact hb)
  unfold tunR at h
  rwa [if_neg (fun e => e rfl), if_neg (fun e => e rfl)] at h
theorem mon_all {p x : List Int} (hx : x.length = p.length) (hb : bndL 1000 x) : monR p.length x = 0 := by
  unfold monR
  rw [if_neg (fun e => e (by omega)), if_neg]
  intro e
  obtain ⟨z, hz, hb2⟩ := List.any_eq_true.1 e
  have := hb z hz
  have := of_decide_eq_true hb2
  omega
theorem mon_all2 {p x y : List Int} (hp : primeChk p = 0) (hx : x.length = p.length) (hb : bndL 1000 x) (hy : y.length = p.length) (hc : bndL 1000 y) : monAll p [x, y] = 0 := by
  unfold monAll
  rw [if_neg (fun e => e hp), monR', if_neg (fun e => e (mon_all hx hb)), monR', if_neg (fun e => e (mon_all hy hc)), monR']
theorem mon_all1 {p x : List Int} (hp : primeChk p = 0) (hx : x.length = p.length) (hb : bndL 1000 x) : monAll p [x] = 0 := by
  unfold monAll
  rw [if_neg (fun e => e hp), monR', if_neg (fun e => e (mon_all hx hb)), monR']
theorem mon_chk {p x : List Int} (hp : primeChk p = 0) (hx : x.length = p.length) (hb : bndL 1000 x) : monChk p x = 0 := by
  unfold monChk
  rw [if_neg (fun e => e hp)]
  exact mon_all hx hb
theorem sumR_bnd {x y : List Int} {n : Nat} (hx : bndL 9 x) (hy : bndL 9 y) : bndL 18 (sumR x y n) := fun z hz => by
  obtain ⟨i, _, rfl⟩ := List.mem_map.1 hz
  have g : ∀ {l : List Int}, bndL 9 l → (l.getD i 0).natAbs ≤ 9 := fun {l} hl => by
    rcases Nat.lt_or_ge i l.length with h | h
    · rw [getD_at h]; exact bndL_at hl h
    · rw [List.getD_eq_getElem?_getD, List.getElem?_eq_none h]; exact Nat.zero_le _
  have := g hx
  have := g hy
  omega
theorem dots_fit {x : List Int} {Mp : List (List Int)} {n : Nat} (hx : x.length = n) (hn : n ≤ 4) (hb : bndL 18 x) (hM : Rect n Mp) (hs : ∀ r ∈ Mp, bndL 10000000 r) : (dots x Mp).all fitsB = true := by
  rw [List.all_eq_true]
  intro z hz
  obtain ⟨r, hr, rfl⟩ := List.mem_map.1 hz
  have h := dotK_bnd hb (hs r hr) x.length (Nat.le_refl _) (by rw [hM r hr, hx]; exact Nat.le_refl _)
  have h2 := Nat.mul_le_mul_right (18 * 10000000) (show x.length ≤ 4 by omega)
  exact decide_eq_true (by omega)
end Go.Proofs.YtlbhgejbfhhipaaGreatDoor

/- Walks: the statement on sums of intervals and on commas. -/
namespace Go.Proofs.YtlbhgejbfhhipaaGreatDoor
open Go Go.Am Go.Lib Go.Sp Z1 Z2 Z3 Z4 Z5 Z6
theorem comma_of {p : List Int} {C Mp : List (List Int)} {G : List (List Rat)} (hN : Nice Tryz.prog p C Mp G) (hC : Rect p.length C) (hK : kernM p.length C = Mp) {c : List Int} (hc : c ∈ C) :
    OkP (laiOf Tryz.prog) Tryz.prog 16 [tunS p C Mp G, rowS c] (.tup [.v (.slice none 0 0), .v (.int .i64 4)]) ∨ OkP (laiOf Tryz.prog) Tryz.prog 16 [tunS p C Mp G, rowS c] (.tup [szS (List.replicate p.length (0 : Rat)), .v (.int .i64 0)]) := by
  have hpl := hN.plen
  have hof := tof_ok (x := c) hN.K (by rw [hC c hc]; omega)
  have hz : ∀ z ∈ dots c Mp, z = 0 := by rw [← hK]; exact dots_comma hC hc
  by_cases hm : monChk p c = 0
  · right
    rw [hN.of hm (List.all_eq_true.2 fun z h => by rw [hz z h]; rfl), temS_zero hz] at hof
    exact hof
  · left
    have h4 : monChk p c = 4 := by
      unfold monChk monR at hm ⊢
      rw [if_neg (fun e => e hN.prime), if_neg (fun e => e (by rw [hC c hc]))] at hm ⊢
      by_cases hb : c.any bigB = true
      · rw [if_pos hb]
      · rw [if_neg hb] at hm; exact absurd rfl hm
    have he : temErr 0 p c Mp G = 4 := by rw [hN.err, if_pos hm, h4]
    unfold ofR at hof
    rw [he, if_pos (by decide)] at hof
    exact hof
set_option maxRecDepth 100000 in
set_option maxHeartbeats 2000000 in
theorem laws_ok (q : Plan) (h : q.In) (l m : List Int) (hl : okRw l) (hm : okRw m) : OkP (laiOf Tryz.prog) Tryz.prog 9 [.agg q.av, .agg (rwC l), .agg (rwC m)] (.v (.bool true)) := by
  have hfi := q.fits (Λ := laiOf Tryz.prog)
  have hkn := known_ok
  have hal : PLift (q.av.length = 35) := ⟨pln24_len h.gens⟩
  have hna : nrl q.av := nrl_pln24 _ _ _ _
  have htk : (q.av.drop 0).take 35 = q.av := by rw [List.drop_zero, List.take_of_length_le (by have := hal.down; omega)]
  have hnl := nrl_rwC l
  have hnm := nrl_rwC m
  have hll : PLift ((rwC l).length = 4) := ⟨by unfold rwC; rw [List.length_map]; exact hl.1⟩
  have hml : PLift ((rwC m).length = 4) := ⟨by unfold rwC; rw [List.length_map]; exact hm.1⟩
  have htl : ((rwC l).drop 0).take 4 = rwC l := by rw [List.drop_zero, List.take_of_length_le (by have := hll.down; omega)]
  have htm : ((rwC m).drop 0).take 4 = rwC m := by rw [List.drop_zero, List.take_of_length_le (by have := hml.down; omega)]
  by_cases hR : (q.R.length : Int) ≤ 3
  · have hok : q.Ok := ⟨h.pr, ⟨by omega, h.rows⟩, h.gens⟩
    rw [decide_eq_true hR] at hfi
    have hmk := hok.make
    have hN := hok.nice
    have hsm := hok.small
    have hC := hok.tmp.1.few.rect
    have hCl := hok.tmp.1.few.rows
    have hK := hok.tmp.2
    generalize q.av = A at hfi hal hna htk hmk ⊢
    generalize q.p = p at hmk hN hC hCl hK
    generalize q.C = C at hmk hN hC hCl hK
    generalize q.Mp = Mp at hmk hN hsm hK
    generalize q.G = G at hmk hN
    have hp := hN.K.small
    have hpl := hN.plen
    have hcm := fun (c : List Int) (hc : c ∈ C) => comma_of hN hC hK hc
    have hMr := (hN.K.rect rfl).1
    have hix := interval_ok (Λ := laiOf Tryz.prog) p l hpl hl
    have hiy := interval_ok (Λ := laiOf Tryz.prog) p m hpl hm
    have hxl := ivl_len l p.length
    have hyl := ivl_len m p.length
    have hxb := ivl_bnd (l := l) p.length
    have hyb := ivl_bnd (l := m) p.length
    generalize ivl l p.length = x at hix hxl hxb
    generalize ivl m p.length = y at hiy hyl hyb
    have hzl : (sumR x y x.length).length = p.length := by rw [sumR_len]; exact hxl
    have hzb := sumR_bnd (n := x.length) hxb hyb
    have hb9 : ∀ {w : List Int} {B B' : Nat}, bndL B w → B ≤ B' → bndL B' w := fun hw hB z hz => Nat.le_trans (hw z hz) hB
    have hma := madd_ok (x := x) (y := y) hp (by omega) (mon_all2 hN.prime hxl (hb9 hxb (by omega)) hyl (hb9 hyb (by omega))) (mon_all1 hN.prime hzl (hb9 hzb (by omega))) (by omega) (by omega) (hb9 hxb (by omega)) (hb9 hyb (by omega))
    have fx := dots_fit hxl hpl (hb9 hxb (by omega)) hMr hsm
    have fy := dots_fit hyl hpl (hb9 hyb (by omega)) hMr hsm
    have fz := dots_fit hzl hpl hzb hMr hsm
    have ox := tof_ok (x := x) hN.K (by omega)
    have oy := tof_ok (x := y) hN.K (by omega)
    have oz := tof_ok (x := sumR x y x.length) hN.K (by omega)
    rw [hN.of (mon_chk hN.prime hxl (hb9 hxb (by omega))) fx] at ox
    rw [hN.of (mon_chk hN.prime hyl (hb9 hyb (by omega))) fy] at oy
    rw [hN.of (mon_chk hN.prime hzl (hb9 hzb (by omega))) fz] at oz
    have sh : ∀ {w : List Int}, (dots w Mp).all fitsB = true → (temS p w Mp G).length = p.length ∧ ∀ q ∈ temS p w Mp G, short30 q := fun hw => ⟨temS_len _ _ _ _, fun q hq => tw_short ((hN.tem hw q hq).mono (by omega))⟩
    have hts := temS_sum (p := p) (x := x) (y := y) (Mp := Mp) (G := G) (by omega)
    have had := sadd_ok (p := p) (a := temS p x Mp G) (b := temS p y Mp G) hp (by omega) (short_sizAll hN.prime (sh fx) (sh fy)) (sh fx) (sh fy) (by rw [← hts]; exact (sh fz).2)
    rw [← hts] at had
    have hsl : (temS p (sumR x y x.length) Mp G).length = p.length := temS_len _ _ _ _
    have heq := szeq_ok (Λ := laiOf Tryz.prog) (temS p (sumR x y x.length) Mp G) (temS p (sumR x y x.length) Mp G) (by omega) (by omega)
    rw [decide_eq_true rfl] at heq
    have hsg := sizsign_zero p p.length hp (by omega) (by omega) (short_sizChk hN.prime List.length_replicate (rep_short _))
    have hnt := nr_tunS p C Mp G
    have hnp := nr_rowS p
    have hnC := nr_matS C
    have hnM := nr_matS Mp
    have hnG := nr_genS G
    have hnx := nr_rowS x
    have hny := nr_rowS y
    have hnz := nr_rowS (sumR x y x.length)
    have hna1 := nr_szS (temS p x Mp G)
    have hnb1 := nr_szS (temS p y Mp G)
    have hns1 := nr_szS (temS p (sumR x y x.length) Mp G)
    have hnr := nr_szS (List.replicate p.length (0 : Rat))
    generalize temS p (sumR x y x.length) Mp G = s at oz had heq hns1
    generalize temS p x Mp G = a at ox had hna1
    generalize temS p y Mp G = b at oy had hnb1
    generalize sumR x y x.length = z at hma oz hnz
    generalize List.replicate p.length (0 : Rat) = Z at hcm hsg hnr
    clear hts sh fx fy fz hzb hzl
    refine okp_intro hT 138 Tryz.func9 rfl rfl rfl (Nat.le_of_ble_eq_true rfl) trivial ?_
    intro w0 F0 I
    (repeat (first | refine awp_seq ?_ | refine awp_block ?_ | refine awp_skip ?_))
    refine awp_at ⟨[(3, .adr 0 0 0), (4, .adr 1 0 0), (5, .adr 2 0 0)], [(0, [⟨35, A⟩]), (1, [⟨4, rwC l⟩]), (2, [⟨4, rwC m⟩])], 3⟩ ?_ ?_
    · repeat (first|refine z2 ?_|refine z1 ?_|refine z3 ?_|refine z4 ?_|refine z5 ?_)
      exact le_ren (fun g t => some (g, t)) ⟨⟨_, rfl, .adr rfl (by show 0 < 3; omega)⟩, ⟨_, rfl, .adr rfl (by show 1 < 3; omega)⟩, ⟨_, rfl, .adr rfl (by show 2 < 3; omega)⟩, trivial⟩ ⟨⟨⟨by show 0 < 3; omega, .inr ⟨0, 0, _, rfl, rfl, hal.down, WkL.refl hna⟩⟩, trivial⟩, ⟨⟨by show 1 < 3; omega, .inr ⟨1, 0, _, rfl, rfl, hll.down, WkL.refl hnl⟩⟩, trivial⟩, ⟨⟨by show 2 < 3; omega, .inr ⟨2, 0, _, rfl, rfl, hml.down, WkL.refl hnm⟩⟩, trivial⟩, trivial⟩ rfl (base_nil _ _)
    (repeat (first | refine awp_seq ?_ | refine awp_block ?_ | refine awp_skip ?_))
    refine awp_at ⟨[(3, .adr 0 0 0), (4, .adr 1 0 0), (5, .adr 2 0 0), (32, .v (.bool false))], [(0, [⟨35, A⟩]), (1, [⟨4, rwC l⟩]), (2, [⟨4, rwC m⟩])], 3⟩ ?_ ?_
    · refine awp_region ?_
      refine zc (hkn) ?_
      repeat (first|refine z2 ?_|refine z1 ?_|refine z3 ?_|refine z4 ?_|refine z5 ?_)
      have hdA : (!true) = false := rfl
      refine al_on hT rfl rfl rfl rfl (pure_load_aa rfl rfl rfl rfl htk) rfl rfl (by show 0 + 35 ≤ A.length; have := hal.down; omega) ?_
      refine zo hfi ?_ (hs := by exact .cons (.refl (x := .agg A) hna) .nil)
      repeat (first|refine z2 ?_|refine z1 ?_|refine z3 ?_|refine z4 ?_|refine z5 ?_|refine z8 ?_|refine z9 ?_)
      exact le_sub ⟨rfl, rfl, rfl, rfl, trivial⟩ rfl rfl
    refine awp_cond rfl (fun h => absurd h (by decide)) (fun _ => ?_)
    repeat (first|refine z2 ?_|refine z1 ?_|refine z3 ?_|refine z4 ?_|refine z5 ?_)
    refine al_pure hT rfl (pure_load_aa rfl rfl rfl rfl htk) rfl rfl (by show 0 + 35 ≤ A.length; have := hal.down; omega) ?_
    refine zs hmk ?_ (hs := by exact .cons (.refl (x := .agg A) hna) .nil) (hr := by exact ⟨⟨hna, trivial⟩, rfl⟩)
    unfold tunS at *
    repeat (first|refine z2 ?_|refine z1 ?_|refine z3 ?_|refine z4 ?_|refine z5 ?_)
    refine awp_region_drawD [] hmix (by kernel_rfl) ?_
    repeat (first|refine z2 ?_|refine z1 ?_|refine z3 ?_|refine z4 ?_|refine z5 ?_)
    refine al_pure hT rfl (pure_load_aa rfl rfl rfl rfl htl) rfl rfl (by show 0 + 4 ≤ (rwC l).length; have := hll.down; omega) ?_
    refine zs hix ?_ (hs := by exact .cons (.refl hnp) (.cons (.refl (x := .agg (rwC l)) hnl) .nil)) (hr := by exact ⟨⟨hnp, hnl, trivial⟩, rfl⟩)
    repeat (first|refine z2 ?_|refine z1 ?_|refine z3 ?_|refine z4 ?_|refine z5 ?_)
    refine al_pure hT rfl (pure_load_aa rfl rfl rfl rfl htm) rfl rfl (by show 0 + 4 ≤ (rwC m).length; have := hml.down; omega) ?_
    refine zs hiy ?_ (hs := by exact .cons (.refl hnp) (.cons (.refl (x := .agg (rwC m)) hnm) .nil)) (hr := by exact ⟨⟨hnp, hnm, trivial⟩, rfl⟩)
    repeat (first|refine z2 ?_|refine z1 ?_|refine z3 ?_|refine z4 ?_|refine z5 ?_)
    refine zs hma ?_ (hs := by exact .cons (.refl hnp) (.cons (.refl hnx) (.cons (.refl hny) .nil))) (hr := by exact ⟨⟨hnp, hnx, hny, trivial⟩, rfl⟩)
    repeat (first|refine z2 ?_|refine z1 ?_|refine z3 ?_|refine z4 ?_|refine z5 ?_)
    refine zs ox ?_ (hs := by exact .cons (.refl (x := .agg [rowS p, matS C, matS Mp, genS G]) hnt) (.cons (.refl hnx) .nil)) (hr := by exact ⟨⟨hnt, hnx, trivial⟩, rfl⟩)
    repeat (first|refine z2 ?_|refine z1 ?_|refine z3 ?_|refine z4 ?_|refine z5 ?_)
    refine zs oy ?_ (hs := by exact .cons (.refl (x := .agg [rowS p, matS C, matS Mp, genS G]) hnt) (.cons (.refl hny) .nil)) (hr := by exact ⟨⟨hnt, hny, trivial⟩, rfl⟩)
    repeat (first|refine z2 ?_|refine z1 ?_|refine z3 ?_|refine z4 ?_|refine z5 ?_)
    refine zs oz ?_ (hs := by exact .cons (.refl (x := .agg [rowS p, matS C, matS Mp, genS G]) hnt) (.cons (.refl hnz) .nil)) (hr := by exact ⟨⟨hnt, hnz, trivial⟩, rfl⟩)
    repeat (first|refine z2 ?_|refine z1 ?_|refine z3 ?_|refine z4 ?_|refine z5 ?_)
    refine zs had ?_ (hs := by exact .cons (.refl hnp) (.cons (.refl hna1) (.cons (.refl hnb1) .nil))) (hr := by exact ⟨⟨hnp, hna1, hnb1, trivial⟩, rfl⟩)
    repeat (first|refine z2 ?_|refine z1 ?_|refine z3 ?_|refine z4 ?_|refine z5 ?_)
    have hdA : (0 != 0) = false := rfl
    repeat (first|refine z2 ?_|refine z1 ?_|refine z3 ?_|refine z4 ?_|refine z5 ?_|refine z8 ?_|refine z9 ?_)
    refine zo heq ?_ (hgt := by exact rfl) (hs := by exact .cons (.refl hns1) (.cons (.refl hns1) .nil))
    repeat (first|refine z2 ?_|refine z1 ?_|refine z3 ?_|refine z4 ?_|refine z5 ?_|refine z8 ?_|refine z9 ?_)
    refine awp_cond rfl (fun h => absurd h (by decide)) (fun _ => ?_)
    repeat (first|refine z2 ?_|refine z1 ?_|refine z3 ?_|refine z4 ?_|refine z5 ?_)
    refine awp_loop (fun k : { k : Nat // k ≤ C.length } => ⟨[(7, .adr 0 0 0), (8, rowS p), (21, .v (.int .i64 k.1))], [(0, [⟨4, [rowS p, matS C, matS Mp, genS G]⟩])], 1⟩) (fun k => C.length - k.1) ⟨0, Nat.zero_le _⟩ ?_ ?_
    · exact le_ren (fun g t => cond (Nat.beq g 0) (some (3, t)) none) ⟨⟨_, rfl, .adr rfl (by show 0 < 1; omega)⟩, ⟨_, rfl, .refl hnp⟩, ⟨_, rfl, .refl trivial⟩, trivial⟩ ⟨⟨⟨by show 0 < 1; omega, .inr ⟨3, 0, _, rfl, rfl, rfl, WkL.refl hnt⟩⟩, trivial⟩, trivial⟩ rfl (base_nil _ _)
    rintro ⟨k, hk⟩
    simp only at hk ⊢
    unfold matS at *
    repeat (first|refine z2 ?_|refine z1 ?_|refine z3 ?_|refine z4 ?_|refine z5 ?_)
    refine awp_cond rfl (fun e => ?_) (fun e => ?_)
    · have hkl : k < C.length := by have := of_decide_eq_true e; omega
      clear e
      have hcc := hcm _ (List.getElem_mem hkl)
      have hdr := rowsC_drop (M := C) (i := (k : Int).toNat * 1) (j := k) (by omega) hkl
      have hncc := nr_rowS C[k]
      generalize C[k] = c at hcc hdr hncc
      repeat (first|refine z2 ?_|refine z1 ?_|refine z3 ?_|refine z4 ?_|refine z5 ?_)
      refine awp_region_drawD [] hmix (by kernel_rfl) ?_
      repeat (first|refine z2 ?_|refine z1 ?_|refine z3 ?_|refine z4 ?_|refine z5 ?_)
      refine al_pure hT rfl (pure_load_pt rfl rfl rfl hdr) rfl rfl True.intro ?_
      rcases hcc with hcc | hcc
      · refine zc hcc ?_ (hs := by exact .cons (.refl (x := .agg [rowS p, matS C, matS Mp, genS G]) hnt) (.cons (.refl hncc) .nil)) (hr := by exact .inl ⟨trivial, trivial, trivial⟩)
        repeat (first|refine z2 ?_|refine z1 ?_|refine z3 ?_|refine z4 ?_|refine z5 ?_)
        refine awp_cond rfl (fun _ => ?_) (fun h => absurd h (by decide))
        repeat (first|refine z2 ?_|refine z1 ?_|refine z3 ?_|refine z4 ?_|refine z5 ?_)
        exact ⟨⟨k + 1, hkl⟩, le_sub ⟨rfl, rfl, rfl, trivial⟩ rfl rfl, by show C.length - (k + 1) < C.length - k; omega⟩
      · refine zs hcc ?_ (hs := by exact .cons (.refl (x := .agg [rowS p, matS C, matS Mp, genS G]) hnt) (.cons (.refl hncc) .nil)) (hr := by exact ⟨⟨hnt, hncc, trivial⟩, rfl⟩)
        repeat (first|refine z2 ?_|refine z1 ?_|refine z3 ?_|refine z4 ?_|refine z5 ?_)
        refine awp_cond rfl (fun h => absurd h (by decide)) (fun _ => ?_)
        repeat (first|refine z2 ?_|refine z1 ?_|refine z3 ?_|refine z4 ?_|refine z5 ?_)
        refine zc hsg ?_ (hs := by exact .cons (.refl hnp) (.cons (.refl hnr) .nil)) (hr := by exact .inl ⟨trivial, trivial, trivial⟩)
        repeat (first|refine z2 ?_|refine z1 ?_|refine z3 ?_|refine z4 ?_|refine z5 ?_)
        repeat (first|refine z2 ?_|refine z1 ?_|refine z3 ?_|refine z4 ?_|refine z5 ?_|refine z8 ?_|refine z9 ?_)
        refine awp_cond rfl (fun h => absurd h (by decide)) (fun _ => ?_)
        repeat (first|refine z2 ?_|refine z1 ?_|refine z3 ?_|refine z4 ?_|refine z5 ?_)
        exact ⟨⟨k + 1, hkl⟩, le_sub ⟨rfl, rfl, rfl, trivial⟩ rfl rfl, by show C.length - (k + 1) < C.length - k; omega⟩
    · repeat (first|refine z2 ?_|refine z1 ?_|refine z3 ?_|refine z4 ?_|refine z5 ?_)
      (exact awp_ret ⟨.inl rfl, ret_one rfl (.refl (by first | trivial | exact nrl_u64s _))⟩)
  · rw [decide_eq_false hR] at hfi
    generalize q.av = A at hfi hal hna htk ⊢
    refine okp_intro hT 138 Tryz.func9 rfl rfl rfl (Nat.le_of_ble_eq_true rfl) trivial ?_
    intro w0 F0 I
    (repeat (first | refine awp_seq ?_ | refine awp_block ?_ | refine awp_skip ?_))
    refine awp_at ⟨[(3, .adr 0 0 0)], [(0, [⟨35, A⟩])], 1⟩ ?_ ?_
    · repeat (first|refine z2 ?_|refine z1 ?_|refine z3 ?_|refine z4 ?_|refine z5 ?_)
      exact le_ren (fun g t => some (g, t)) ⟨⟨_, rfl, .adr rfl (by show 0 < 1; omega)⟩, trivial⟩ ⟨⟨⟨by show 0 < 1; omega, .inr ⟨0, 0, _, rfl, rfl, hal.down, WkL.refl hna⟩⟩, trivial⟩, trivial⟩ rfl (base_nil _ _)
    (repeat (first | refine awp_seq ?_ | refine awp_block ?_ | refine awp_skip ?_))
    refine awp_at ⟨[(32, .v (.bool true))], [(0, [⟨35, A⟩])], 1⟩ ?_ ?_
    · refine awp_region ?_
      refine zc (hkn) ?_
      repeat (first|refine z2 ?_|refine z1 ?_|refine z3 ?_|refine z4 ?_|refine z5 ?_)
      have hdA : (!true) = false := rfl
      refine al_on hT rfl rfl rfl rfl (pure_load_aa rfl rfl rfl rfl htk) rfl rfl (by show 0 + 35 ≤ A.length; have := hal.down; omega) ?_
      refine zo hfi ?_ (hs := by exact .cons (.refl (x := .agg A) hna) .nil)
      repeat (first|refine z2 ?_|refine z1 ?_|refine z3 ?_|refine z4 ?_|refine z5 ?_|refine z8 ?_|refine z9 ?_)
      exact le_sub ⟨rfl, trivial⟩ rfl rfl
    refine awp_cond rfl (fun _ => ?_) (fun h => absurd h (by decide))
    repeat (first|refine z2 ?_|refine z1 ?_|refine z3 ?_|refine z4 ?_|refine z5 ?_)
    refine zc (hkn) ?_
    repeat (first|refine z2 ?_|refine z1 ?_|refine z3 ?_|refine z4 ?_|refine z5 ?_)
    (exact awp_ret ⟨.inl rfl, ret_one rfl (.refl (by first | trivial | exact nrl_u64s _))⟩)
end Go.Proofs.YtlbhgejbfhhipaaGreatDoor

/- How four exponents read. -/
namespace Go.Proofs.YtlbhgejbfhhipaaGreatDoor
open Go Go.Am Go.Lib Go.Sp Z1 Z2 Z3 Z4 Z5 Z6
open Go.ChangeShapes Go.WideShapes Go.ChangeAt Go.RowKit
set_option maxRecDepth 100000 in
theorem arg_r4 {H : Type} {enc : TypeId × Value → H} {w : World} {v : Value} {d : DataW H} {ps : List MemPlace} {base : Nat} (hv : Value.okWide Tryz.prog w .any base 92 v) (h : DataW.Trod enc Tryz.prog w 0 (fun _ => true) true 92 v d ps) : ∃ l : List Int, okRw l ∧ V w (fun b => b < w.heap.size) [] (.agg (rwC l)) v :=
  arg_agg rd_rw Tryz.underlying92 rfl hv h
end Go.Proofs.YtlbhgejbfhhipaaGreatDoor
