/- Layer 15 (plain): Valid of the program and of the reference are the same convexity. -/
import Derived.Test.YtkpnffokjpgalaaGreatKSl
import Derived.Test.YtkpnffokjpgalaaGreatKVecB
namespace Go.Proofs.YtkpnffokjpgalaaGreat
set_option linter.unusedVariables false
set_option linter.unusedSimpArgs false

theorem near_within {x y m : Int} (hm : 0 ≤ m ∧ m ≤ 100000) : withinB x y m = true ↔ near m (x, y) := by
  unfold withinB near
  rw [wneg_in (by omega)]
  simp only [Bool.and_eq_true, decide_eq_true_eq]
  omega
def inV (p : Pt) : Bool := withinB p.1 p.2 8000
theorem inV_near {p : Pt} : inV p = true ↔ near 8000 p := near_within (by omega)
theorem rotL_zero (r : List Pt) : rotL 0 r = r := by unfold rotL; simp
theorem rotL_back {k : Nat} {r : List Pt} (hk : k ≤ r.length) : rotL (r.length - k) (rotL k r) = r := by
  unfold rotL
  have h1 : (r.drop k).length = r.length - k := List.length_drop
  rw [← h1, List.drop_left, List.take_left, List.take_append_drop]
theorem ConvexI.back {k : Nat} {r : List Pt} (hk : k < r.length) (h3 : 3 ≤ r.length) (h : ConvexI (rotL k r)) : ConvexI r := by
  by_cases k0 : k = 0
  · subst k0; rwa [rotL_zero] at h
  · have hl := rotL_length (r := r) (Nat.le_of_lt hk)
    have := (h.self (by omega)).rot (k := r.length - k) (by omega)
    rw [rotL_back (Nat.le_of_lt hk)] at this
    exact this.cv
theorem ConvexI.ne {r : List Pt} (h : ConvexI r) (h3 : 3 ≤ r.length) {i k : Nat} (hi : i < r.length) (hk : k < r.length) (hne : k ≠ i) : at0 r k ≠ at0 r i :=
  (h.self h3).distinct hk hi hne
theorem ConvexI.left_turn {r : List Pt} (h : ConvexI r) (h3 : 3 ≤ r.length) {i : Nat} (hi : i < r.length) : 0 < det (rv r i) (rv r (i + 1)) (rv r (i + 2)) := by
  have := h i hi ((i + 2) % r.length) (Nat.mod_lt _ (by omega)) (by
    intro e
    by_cases q : i + 2 < r.length
    · rw [Nat.mod_eq_of_lt q] at e; omega
    · rw [Nat.mod_eq_sub_mod (by omega), Nat.mod_eq_of_lt (by omega)] at e; omega) (by
    intro e
    by_cases q : i + 2 < r.length
    · rw [Nat.mod_eq_of_lt q, Nat.mod_eq_of_lt (by omega)] at e; omega
    · rw [Nat.mod_eq_sub_mod (by omega), Nat.mod_eq_of_lt (by omega)] at e
      by_cases q2 : i + 1 < r.length
      · rw [Nat.mod_eq_of_lt q2] at e; omega
      · rw [Nat.mod_eq_sub_mod (by omega), Nat.mod_eq_of_lt (by omega)] at e; omega)
  rw [rv_lt hi]
  exact this
/-- What both ask. -/
def Conv15 (r : List Pt) : Prop := 3 ≤ r.length ∧ r.length ≤ 160 ∧ (∀ p ∈ r, near 8000 p) ∧ ConvexI r
def validB (r : List Pt) : Bool := decide (3 ≤ r.length) && decide (r.length ≤ 160) && r.all inV && (List.range r.length).all (leftAt r) && decide (turns r r.length = 1)
theorem convex_turns {r : List Pt} (h3 : 3 ≤ r.length) (hn : ∀ p ∈ r, near 8000 p) (h : ConvexI r) : turns r r.length = 1 := by
  have hn2 : ∀ p ∈ r, near 20000 p := fun p hp => by have := hn p hp; unfold near at *; omega
  obtain ⟨j, hj, hm⟩ := exists_least (lin 1 40001) (r := r) (by intro e; rw [e] at h3; simp at h3)
  have hmin : ∀ q ∈ r, at0 r j = q ∨ lexy (at0 r j) q := fun q hq => lin_lexy' (hn2 _ (at0_mem hj)) (hn2 _ hq) (hm q hq)
  have hj1 : ((j + (r.length - 1)) % r.length + 1) % r.length = j := by
    rw [Nat.mod_add_mod, show j + (r.length - 1) + 1 = j + r.length by omega, Nat.add_mod_right, Nat.mod_eq_of_lt hj]
  have hi0 : (j + (r.length - 1)) % r.length < r.length := Nat.mod_lt _ (by omega)
  obtain ⟨i0, hi⟩ : ∃ i0, i0 = (j + (r.length - 1)) % r.length := ⟨_, rfl⟩
  rw [← hi] at hj1 hi0
  have hv : rv r (i0 + 1) = at0 r j := by unfold rv; rw [hj1]
  refine filter_one (k := i0) hi0 ?_ ?_
  · unfold turnAt
    rw [Bool.and_eq_true, Bool.not_eq_true']
    constructor
    · cases q : upB (edgeV r i0)
      · rfl
      · have h1 := upB_lexy.1 q
        rw [hv] at h1
        rcases hmin _ (rv_mem (r := r) (i := i0) (by omega)) with e | e
        · rw [← e] at h1
          exact absurd h1 (fun h => h.asymm h)
        · exact absurd h1 (fun h => h.asymm e)
    · refine upB_lexy.2 ?_
      rw [hv]
      rcases hmin _ (rv_mem (r := r) (i := i0 + 1 + 1) (by omega)) with e | e
      · exfalso
        have hne := (h.self h3).next_ne hj
        apply hne
        rw [e]
        unfold rv
        rw [show i0 + 1 + 1 = (i0 + 1) + 1 from rfl, ← Nat.mod_add_mod (i0 + 1), hj1]
      · exact e
  · intro i hi2 ht
    unfold turnAt at ht
    rw [Bool.and_eq_true, Bool.not_eq_true'] at ht
    have hne : rv r i ≠ rv r (i + 1) := by
      rw [rv_lt hi2]
      exact (h.self h3).next_ne hi2
    have l1 := edge_ne ht.1 hne
    have l2 := upB_lexy.1 ht.2
    have hb : (i + 1) % r.length < r.length := Nat.mod_lt _ (by omega)
    have c := fun q (hq : q ∈ r) => cone 1 40001 (h.left_turn h3 hi2) (by rw [rv_lt hi2]; exact h.left i hi2 q hq) (by
      have := h.left _ hb q hq
      have e : rv r ((i + 1) % r.length + 1) = rv r (i + 2) := by unfold rv; rw [Nat.mod_add_mod]
      rw [e] at this
      exact this) (Int.le_of_lt (lexy_lin (hn2 _ (rv_mem (by omega))) (hn2 _ (rv_mem (by omega))) l1)) (Int.le_of_lt (lexy_lin (hn2 _ (rv_mem (by omega))) (hn2 _ (rv_mem (by omega))) l2))
    have h1 := c _ (at0_mem hj)
    have e1 : rv r (i + 1) = at0 r j := by
      rcases lin_lexy' (hn2 _ (rv_mem (by omega))) (hn2 _ (at0_mem hj)) h1 with e | e
      · exact e
      · rcases hmin _ (rv_mem (r := r) (i := i + 1) (by omega)) with e' | e'
        · exact e'.symm
        · exact absurd e (fun h => h.asymm e')
    have e2 : (i + 1) % r.length = j := by
      by_cases q : (i + 1) % r.length = j
      · exact q
      · exact absurd e1 (h.ne h3 hj hb q)
    by_cases a : i + 1 < r.length
    · rw [Nat.mod_eq_of_lt a] at e2
      by_cases b : i0 + 1 < r.length
      · rw [Nat.mod_eq_of_lt b] at hj1; omega
      · rw [show i0 + 1 = r.length by omega, Nat.mod_self] at hj1; omega
    · rw [show i + 1 = r.length by omega, Nat.mod_self] at e2
      by_cases b : i0 + 1 < r.length
      · rw [Nat.mod_eq_of_lt b] at hj1; omega
      · omega
theorem validB_iff {r : List Pt} : validB r = true ↔ Conv15 r := by
  unfold validB Conv15
  simp only [Bool.and_eq_true, decide_eq_true_eq, List.all_eq_true, List.mem_range, and_assoc]
  refine and_congr_right fun h3 => and_congr_right fun h160 => ?_
  constructor
  · rintro ⟨hn, hl, ht⟩
    have hn' : ∀ p ∈ r, near 8000 p := fun p hp => inV_near.1 (hn p hp)
    obtain ⟨k, hk, hH, -⟩ := turns_convex h3 (fun p hp => by have := hn' p hp; unfold near at *; omega) hl ht
    exact ⟨hn', ConvexI.back hk h3 hH.cv⟩
  · rintro ⟨hn, hc⟩
    exact ⟨fun p hp => inV_near.2 (hn p hp), fun i hi => leftAt_det.2 (hc.left_turn h3 hi), convex_turns h3 hn hc⟩
/-- The reference's conditions give convexity. -/
theorem ref_convex {r : List Pt} (h3 : 3 ≤ r.length) (hl : ∀ i, i < r.length → 0 < det (at0 r i) (rv r (i + 1)) (rv r (i + 2))) (hd : ∀ i, i < r.length → ∀ k, k < r.length → 0 ≤ det (at0 r i) (rv r (i + 1)) (at0 r k)) (hne : ∀ i, i < r.length → ∀ k, k < r.length → k ≠ i → at0 r k ≠ at0 r i) : ConvexI r := by
  intro i hi k hk hki hki1
  rcases Int.lt_or_eq_of_le (hd i hi k hk) with h | h
  · exact h
  exfalso
  have hm : ∀ j, j % r.length < r.length := fun j => Nat.mod_lt _ (by omega)
  have hdv : ∀ j q, q ∈ r → 0 ≤ det (rv r j) (rv r (j + 1)) q := fun j q hq => by
    obtain ⟨t, ht, rfl⟩ := mem_at hq
    have := hd _ (hm j) t ht
    have e : rv r (j % r.length + 1) = rv r (j + 1) := by unfold rv; rw [Nat.mod_add_mod]
    rw [e] at this
    exact this
  have hlv : ∀ j, 0 < det (rv r j) (rv r (j + 1)) (rv r (j + 2)) := fun j => by
    have := hl _ (hm j)
    have e : ∀ c, rv r (j % r.length + c) = rv r (j + c) := fun c => by unfold rv; rw [Nat.mod_add_mod]
    rw [e, e] at this
    exact this
  have hq := at0_mem hk
  have ha := at0_mem hi
  have hb : rv r (i + 1) ∈ r := rv_mem (by omega)
  have ei : rv r (i + r.length) = at0 r i := by rw [rv_add, rv_lt hi]
  have ek : rv r (k + r.length) = at0 r k := by rw [rv_add, rv_lt hk]
  have ei1 : rv r (i + r.length + 1) = rv r (i + 1) := by rw [show i + r.length + 1 = (i + 1) + r.length by omega, rv_add]
  have ek1 : rv r (k + r.length + 1) = rv r (k + 1) := by rw [show k + r.length + 1 = (k + 1) + r.length by omega, rv_add]
  have t1 := hlv (i + r.length - 1)
  have t2 := hlv i
  have t3 := hlv (k + r.length - 1)
  have d1 := hdv (i + r.length - 1) _ hq
  have d2 := hdv (i + 1) _ hq
  have d3 := hdv k _ ha
  have d4 := hdv k _ hb
  have d5 := hdv (k + r.length - 1) _ ha
  have d6 := hdv (k + r.length - 1) _ hb
  have na := hne i hi k hk hki
  have nb : at0 r k ≠ rv r (i + 1) := hne _ (hm (i + 1)) k hk hki1
  rw [show i + r.length - 1 + 1 = i + r.length by omega, show i + r.length - 1 + 2 = i + r.length + 1 by omega, ei, ei1] at t1
  rw [show i + r.length - 1 + 1 = i + r.length by omega, ei] at d1
  rw [show k + r.length - 1 + 1 = k + r.length by omega, show k + r.length - 1 + 2 = k + r.length + 1 by omega, ek, ek1] at t3
  rw [show k + r.length - 1 + 1 = k + r.length by omega, ek] at d5 d6
  rw [rv_lt hi, show i + 2 = i + 1 + 1 from rfl] at t2
  rw [rv_lt hk] at d3 d4
  generalize rv r (i + r.length - 1) = p at *
  generalize rv r (k + r.length - 1) = u at *
  generalize rv r (i + 1 + 1) = c at *
  generalize rv r (i + 1) = b at *
  generalize rv r (k + 1) = w at *
  generalize at0 r i = a at *
  generalize at0 r k = q at *
  clear hd hl hne hdv hlv
  obtain ⟨dx, hdx⟩ : ∃ dx, dx = b.1 - a.1 := ⟨_, rfl⟩
  obtain ⟨dy, hdy⟩ : ∃ dy, dy = b.2 - a.2 := ⟨_, rfl⟩
  obtain ⟨s, hs⟩ : ∃ s, s = dx * (q.1 - a.1) + dy * (q.2 - a.2) := ⟨_, rfl⟩
  obtain ⟨D, hD⟩ : ∃ D, D = dx * dx + dy * dy := ⟨_, rfl⟩
  have hz : dx * (q.2 - a.2) - dy * (q.1 - a.1) = 0 := by unfold det at h; rw [hdx, hdy]; omega
  have e1 : D * (q.1 - a.1) = s * dx := by
    have : D * (q.1 - a.1) - s * dx = -dy * (dx * (q.2 - a.2) - dy * (q.1 - a.1)) := by rw [hD, hs]; grind
    rw [hz, Int.mul_zero] at this
    omega
  have e2 : D * (q.2 - a.2) = s * dy := by
    have : D * (q.2 - a.2) - s * dy = dx * (dx * (q.2 - a.2) - dy * (q.1 - a.1)) := by rw [hD, hs]; grind
    rw [hz, Int.mul_zero] at this
    omega
  have f1 : D * det p a q = s * det p a b := by
    have : D * det p a q = (a.1 - p.1) * (D * (q.2 - a.2)) - (a.2 - p.2) * (D * (q.1 - a.1)) + D * det p a a := by unfold det; grind
    rw [this, e1, e2, det_end, Int.mul_zero]
    unfold det
    rw [hdx, hdy]
    grind
  have f2 : D * det b c q = (D - s) * det a b c := by
    have : D * det b c q = (c.1 - b.1) * (D * (q.2 - a.2) - D * (b.2 - a.2)) - (c.2 - b.2) * (D * (q.1 - a.1) - D * (b.1 - a.1)) := by unfold det; grind
    rw [this, e1, e2]
    unfold det
    rw [hdx, hdy]
    grind
  have hDpos : 0 < D := by
    have t2' := t2
    unfold det at t2'
    rcases Int.lt_or_eq_of_le (show 0 ≤ D by rw [hD]; have := sq_nonneg dx; have := sq_nonneg dy; omega) with g | g
    · exact g
    · exfalso
      have s1 := sq_nonneg dx
      have s2 := sq_nonneg dy
      have z1 : dx * dx = 0 := by omega
      have z2 : dy * dy = 0 := by omega
      rw [Int.mul_eq_zero, or_self] at z1 z2
      rw [← hdx, ← hdy, z1, z2] at t2'
      omega
  have s0 : 0 ≤ s := by
    have := Int.mul_nonneg (Int.le_of_lt hDpos) d1
    rw [f1, Int.mul_comm] at this
    exact nonneg_of_mul t1 this
  have sD : 0 ≤ D - s := by
    have := Int.mul_nonneg (Int.le_of_lt hDpos) d2
    rw [f2, Int.mul_comm] at this
    exact nonneg_of_mul t2 this
  have sp : 0 < s := by
    rcases Int.lt_or_eq_of_le s0 with g | g
    · exact g
    · exfalso
      rw [← g, Int.zero_mul] at e1 e2
      have y1 := zero_of_mul hDpos e1
      have y2 := zero_of_mul hDpos e2
      exact na (Prod.ext (by omega) (by omega))
  have sq : 0 < D - s := by
    rcases Int.lt_or_eq_of_le sD with g | g
    · exact g
    · exfalso
      have : s = D := by omega
      rw [this] at e1 e2
      have y1 : D * (q.1 - a.1 - dx) = 0 := by rw [Int.mul_sub]; omega
      have y2 : D * (q.2 - a.2 - dy) = 0 := by rw [Int.mul_sub]; omega
      have y1 := zero_of_mul hDpos y1
      have y2 := zero_of_mul hDpos y2
      exact nb (Prod.ext (by omega) (by omega))
  have g1 : D * det q w a = -s * ((w.1 - q.1) * dy - (w.2 - q.2) * dx) := by
    have : D * det q w a = (w.2 - q.2) * (D * (q.1 - a.1)) - (w.1 - q.1) * (D * (q.2 - a.2)) := by unfold det; grind
    rw [this, e1, e2]
    grind
  have g2 : D * det q w b = (D - s) * ((w.1 - q.1) * dy - (w.2 - q.2) * dx) := by
    have : D * det q w b = (w.2 - q.2) * (D * (q.1 - a.1)) - (w.1 - q.1) * (D * (q.2 - a.2)) + D * ((w.1 - q.1) * (b.2 - a.2) - (w.2 - q.2) * (b.1 - a.1)) := by unfold det; grind
    rw [this, e1, e2, ← hdx, ← hdy]
    grind
  have g3 : D * det u q a = -s * ((q.1 - u.1) * dy - (q.2 - u.2) * dx) := by
    have : D * det u q a = (q.2 - u.2) * (D * (q.1 - a.1)) - (q.1 - u.1) * (D * (q.2 - a.2)) := by unfold det; grind
    rw [this, e1, e2]
    grind
  have g4 : D * det u q b = (D - s) * ((q.1 - u.1) * dy - (q.2 - u.2) * dx) := by
    have : D * det u q b = (q.2 - u.2) * (D * (q.1 - a.1)) - (q.1 - u.1) * (D * (q.2 - a.2)) + D * ((q.1 - u.1) * (b.2 - a.2) - (q.2 - u.2) * (b.1 - a.1)) := by unfold det; grind
    rw [this, e1, e2, ← hdx, ← hdy]
    grind
  have zero : ∀ x : Int, 0 ≤ -s * x → 0 ≤ (D - s) * x → x = 0 := fun x h1 h2 => by
    have a2 := nonneg_of_mul sq h2
    rw [Int.neg_mul] at h1
    rcases Int.lt_or_eq_of_le a2 with g | g
    · have := Int.mul_pos sp g
      omega
    · exact g.symm
  have w1 := zero _ (by rw [← g1]; exact Int.mul_nonneg (Int.le_of_lt hDpos) d3) (by rw [← g2]; exact Int.mul_nonneg (Int.le_of_lt hDpos) d4)
  have w2 := zero _ (by rw [← g3]; exact Int.mul_nonneg (Int.le_of_lt hDpos) d5) (by rw [← g4]; exact Int.mul_nonneg (Int.le_of_lt hDpos) d6)
  have fin : D * det u q w = ((q.1 - u.1) * dy - (q.2 - u.2) * dx) * ((w.2 - q.2) * dy + (w.1 - q.1) * dx) - ((w.1 - q.1) * dy - (w.2 - q.2) * dx) * ((q.2 - u.2) * dy + (q.1 - u.1) * dx) := by
    rw [hD]; unfold det; grind
  rw [w1, w2, Int.zero_mul, Int.zero_mul] at fin
  have := zero_of_mul hDpos (show D * det u q w = 0 by omega)
  omega
end Go.Proofs.YtkpnffokjpgalaaGreat
