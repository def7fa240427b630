/- The ring out of a lower and an upper chain; what a hull is; linear forms over a hull. No program here. -/
import Derived.Test.YticmfmcflikneaaHullP2
namespace Go.Proofs.Yticmfmcflikneaa
set_option linter.unusedVariables false

/-- The vertex i of a ring. -/
def rv (r : List Pt) (i : Nat) : Pt := at0 r (i % r.length)
structure IsHull (pts r : List Pt) : Prop where
  three : 3 ≤ r.length
  convex : ∀ i k, i < r.length → k < r.length → k ≠ i → k ≠ (i + 1) % r.length → 0 < det (at0 r i) (rv r (i + 1)) (at0 r k)
  left : ∀ i, i < r.length → ∀ q ∈ pts, 0 ≤ det (at0 r i) (rv r (i + 1)) q
  sub : ∀ q ∈ r, q ∈ pts

theorem cone (k l : Int) {a v b q : Pt} (h : 0 < det a v b) (h1 : 0 ≤ det a v q) (h2 : 0 ≤ det v b q) (ha : lin k l v ≤ lin k l a) (hb : lin k l v ≤ lin k l b) : lin k l v ≤ lin k l q := by
  have e : det a v b * (lin k l q - lin k l v) = det a v q * (lin k l b - lin k l v) + det v b q * (lin k l a - lin k l v) := by unfold det lin; grind
  have m1 : 0 ≤ det a v q * (lin k l b - lin k l v) := Int.mul_nonneg h1 (by omega)
  have m2 : 0 ≤ det v b q * (lin k l a - lin k l v) := Int.mul_nonneg h2 (by omega)
  have := nonneg_of_mul (b := lin k l q - lin k l v) h (by rw [e]; omega)
  omega
theorem exists_least (f : Pt → Int) : ∀ {r : List Pt}, r ≠ [] → ∃ i, i < r.length ∧ ∀ q ∈ r, f (at0 r i) ≤ f q
  | [], h => absurd rfl h
  | [a], _ => ⟨0, by simp, fun q hq => by simp at hq; subst hq; simp [at0]⟩
  | a :: b :: r, _ => by
    obtain ⟨i, hi, hm⟩ := exists_least f (r := b :: r) (by simp)
    rcases Int.lt_or_le (f (at0 (b :: r) i)) (f a) with h | h
    · refine ⟨i + 1, by simpa using hi, fun q hq => ?_⟩
      show f (at0 (b :: r) i) ≤ f q
      rcases List.mem_cons.1 hq with rfl | hq
      · omega
      · exact hm q hq
    · refine ⟨0, by simp, fun q hq => ?_⟩
      show f a ≤ f q
      rcases List.mem_cons.1 hq with rfl | hq
      · omega
      · have := hm q hq; omega
/-- The corner at a vertex: the vertices ahead of and behind it. -/
theorem IsHull.corner {pts r : List Pt} (h : IsHull pts r) {i : Nat} (hi : i < r.length) : ∃ j, j < r.length ∧ rv r (j + 1) = at0 r i ∧ 0 < det (at0 r j) (at0 r i) (rv r (i + 1)) ∧ (∀ q ∈ pts, 0 ≤ det (at0 r j) (at0 r i) q) ∧ (j + 1) % r.length = i := by
  have h3 := h.three
  obtain ⟨j, hj, hji⟩ : ∃ j, j < r.length ∧ (j + 1) % r.length = i := by
    rcases Nat.eq_zero_or_pos i with rfl | hp
    · exact ⟨r.length - 1, by omega, by rw [show r.length - 1 + 1 = r.length by omega, Nat.mod_self]⟩
    · exact ⟨i - 1, by omega, by rw [show i - 1 + 1 = i by omega, Nat.mod_eq_of_lt hi]⟩
  have e : rv r (j + 1) = at0 r i := by unfold rv; rw [hji]
  refine ⟨j, hj, e, ?_, fun q hq => by have := h.left j hj q hq; rwa [e] at this, hji⟩
  have hn : (i + 1) % r.length < r.length := Nat.mod_lt _ (by omega)
  have := h.convex j ((i + 1) % r.length) hj hn ?_ ?_
  · rwa [e] at this
  · intro he
    rcases Nat.lt_or_ge (i + 1) r.length with h1 | h1
    · rw [Nat.mod_eq_of_lt h1] at he
      rcases Nat.lt_or_ge (j + 1) r.length with h2 | h2
      · rw [Nat.mod_eq_of_lt h2] at hji; omega
      · have : j + 1 = r.length := by omega
        rw [this, Nat.mod_self] at hji; omega
    · have : i + 1 = r.length := by omega
      rw [this, Nat.mod_self] at he
      rw [← he, Nat.mod_eq_of_lt (by omega)] at hji; omega
  · rw [hji]
    intro he
    rcases Nat.lt_or_ge (i + 1) r.length with h1 | h1
    · rw [Nat.mod_eq_of_lt h1] at he; omega
    · have : i + 1 = r.length := by omega
      rw [this, Nat.mod_self] at he; omega
/-- A linear form is least at a vertex. -/
theorem IsHull.least {pts r : List Pt} (h : IsHull pts r) (k l : Int) : ∃ i, i < r.length ∧ ∀ q, q ∈ pts → lin k l (at0 r i) ≤ lin k l q := by
  have h3 := h.three
  obtain ⟨i, hi, hm⟩ := exists_least (lin k l) (r := r) (by intro e; rw [e] at h3; simp at h3)
  obtain ⟨j, hj, e, hc, hl, -⟩ := h.corner hi
  refine ⟨i, hi, fun q hq => cone k l hc (hl q hq) (h.left i hi q hq) (hm _ (at0_mem hj)) (hm _ (at0_mem (Nat.mod_lt _ (by omega))))⟩
/-- What lies to the left of all vertices' ... a form that is not negative at the vertices is so at all points. -/
theorem lin_of_det (a b : Pt) : ∃ k l c : Int, ∀ q, det a b q = lin k l q + c :=
  ⟨-(b.2 - a.2), b.1 - a.1, -(b.1 - a.1) * a.2 + (b.2 - a.2) * a.1, fun q => by unfold det lin; grind⟩
theorem IsHull.side {pts r : List Pt} (h : IsHull pts r) (a b : Pt) (hv : ∀ v ∈ r, 0 ≤ det a b v) : ∀ q ∈ pts, 0 ≤ det a b q := by
  obtain ⟨k, l, c, e⟩ := lin_of_det a b
  obtain ⟨i, hi, hm⟩ := h.least k l
  intro q hq
  have h1 := hm q hq
  have h2 := hv _ (at0_mem hi)
  rw [e] at h2 ⊢
  omega

/-- The ring of two chains. -/
theorem hull_ring {k l : Int} {pts lo up : List Pt} (hlo : Chain k l pts lo) (hup : Chain (-k) (-l) pts up) (h2 : 2 ≤ lo.length) (hu2 : 2 ≤ up.length)
    (hj : at0 up 0 = at0 lo (lo.length - 1)) (hz : at0 up (up.length - 1) = at0 lo 0) (h3 : 3 ≤ lo.length - 1 + (up.length - 1)) : IsHull pts (lo.dropLast ++ up.dropLast) := by
  obtain ⟨p, hp⟩ : ∃ p, lo.length = p + 1 := ⟨lo.length - 1, by omega⟩
  obtain ⟨m, hm⟩ : ∃ m, up.length = m + 1 := ⟨up.length - 1, by omega⟩
  have hn : (lo.dropLast ++ up.dropLast).length = p + m := by simp [hp, hm]
  have g1 : ∀ i, i < p → at0 (lo.dropLast ++ up.dropLast) i = at0 lo i := fun i hi => by
    rw [at0_eq (by omega), at0_eq (by omega), List.getElem_append_left (by simp; omega), List.getElem_dropLast]
  have g2 : ∀ j, j < m → at0 (lo.dropLast ++ up.dropLast) (p + j) = at0 up j := fun j hj' => by
    rw [at0_eq (by omega), at0_eq (by omega), List.getElem_append_right (by simp [hp]), List.getElem_dropLast]
    congr 1
    simp [hp]
  rw [hp] at hj; rw [hm] at hz
  simp only [Nat.add_sub_cancel] at hj hz
  have g3 : ∀ i, i ≤ p → at0 (lo.dropLast ++ up.dropLast) i = at0 lo i := fun i hi => by
    rcases Nat.lt_or_ge i p with h | h
    · exact g1 i h
    · have : i = p + 0 := by omega
      rw [this, g2 0 (by omega), hj]; rfl
  have g4 : ∀ i, i < p → rv (lo.dropLast ++ up.dropLast) (i + 1) = at0 lo (i + 1) := fun i hi => by
    unfold rv; rw [hn, Nat.mod_eq_of_lt (by omega), g3 _ (by omega)]
  have g5 : ∀ j, j < m → rv (lo.dropLast ++ up.dropLast) (p + j + 1) = at0 up (j + 1) := fun j hj' => by
    unfold rv; rw [hn]
    rcases Nat.lt_or_ge (j + 1) m with h | h
    · rw [Nat.mod_eq_of_lt (by omega), show p + j + 1 = p + (j + 1) by omega, g2 _ h]
    · have : j + 1 = m := by omega
      rw [show p + j + 1 = p + m by omega, Nat.mod_self, g1 0 (by omega), this, hz]
  have hul : ∀ q : Pt, lin (-k) (-l) q = -lin k l q := fun q => by unfold lin; grind
  refine ⟨by omega, fun i kk hi hk hki hk1 => ?_, fun i hi q hq => ?_, fun q hq => ?_⟩
  · rw [hn] at hi hk hk1
    rcases Nat.lt_or_ge i p with hip | hip
    · rw [g1 i hip, g4 i hip]
      rw [Nat.mod_eq_of_lt (by omega)] at hk1
      rcases Nat.lt_or_ge p kk with hkp | hkp
      · obtain ⟨j, rfl⟩ : ∃ j, kk = p + j := ⟨kk - p, by omega⟩
        rw [g2 j (by omega)]
        have u1 := hup.asc (j - 1) (by omega)
        have u2 := hup.asc j (by omega)
        rw [hul, hul] at u1 u2
        rw [show j - 1 + 1 = j by omega] at u1
        have l1 := hup.left (j - 1) (by omega)
        rw [show j - 1 + 1 = j by omega] at l1
        have l2 := hup.left j (by omega)
        have lm1 : at0 lo i ∈ pts := hlo.sub _ (at0_mem (by omega))
        have lm2 : at0 lo (i + 1) ∈ pts := hlo.sub _ (at0_mem (by omega))
        refine corner_off (k := k) (l := l) (a := at0 up (j - 1)) (b := at0 up (j + 1)) (hlo.asc i (by omega)) (by omega) (by omega) (hup.strict _ _ _ (by omega) (by omega) (by omega)) (l1 _ lm1) (l2 _ lm1) (l1 _ lm2) (l2 _ lm2) ?_ ?_ ?_
        all_goals exact hlo.left i (by omega) _ (hup.sub _ (at0_mem (by omega)))
      · rw [g3 kk hkp]
        rcases Nat.lt_or_ge kk i with h | h
        · rw [← det_cycle]; exact hlo.strict _ _ _ h (by omega) (by omega)
        · exact hlo.strict _ _ _ (by omega) (by omega) (by omega)
    · obtain ⟨j, rfl⟩ : ∃ j, i = p + j := ⟨i - p, by omega⟩
      rw [g2 j (by omega), g5 j (by omega)]
      rcases Nat.lt_or_ge kk p with hkp | hkp
      · rw [g1 kk hkp]
        rcases Nat.eq_zero_or_pos kk with rfl | hk0
        · rw [← hz]
          have : j + 1 ≠ m := by
            intro e
            apply hk1
            rw [show p + j + 1 = p + m by omega, Nat.mod_self]
          exact hup.strict _ _ _ (by omega) (by omega) (by omega)
        · have u1 := hlo.asc (kk - 1) (by omega)
          have u2 := hlo.asc kk (by omega)
          rw [show kk - 1 + 1 = kk by omega] at u1
          have l1 := hlo.left (kk - 1) (by omega)
          rw [show kk - 1 + 1 = kk by omega] at l1
          have l2 := hlo.left kk (by omega)
          have lm1 : at0 up j ∈ pts := hup.sub _ (at0_mem (by omega))
          have lm2 : at0 up (j + 1) ∈ pts := hup.sub _ (at0_mem (by omega))
          refine corner_off (k := -k) (l := -l) (a := at0 lo (kk - 1)) (b := at0 lo (kk + 1)) (hup.asc j (by omega)) (by rw [hul, hul]; omega) (by rw [hul, hul]; omega) (hlo.strict _ _ _ (by omega) (by omega) (by omega)) (l1 _ lm1) (l2 _ lm1) (l1 _ lm2) (l2 _ lm2) ?_ ?_ ?_
          all_goals exact hup.left j (by omega) _ (hlo.sub _ (at0_mem (by omega)))
      · obtain ⟨j', rfl⟩ : ∃ j', kk = p + j' := ⟨kk - p, by omega⟩
        rw [g2 j' (by omega)]
        have hne : j' ≠ j + 1 := by
          intro e
          apply hk1
          rw [Nat.mod_eq_of_lt (by omega)]; omega
        rcases Nat.lt_or_ge j' j with h | h
        · rw [← det_cycle]; exact hup.strict _ _ _ h (by omega) (by omega)
        · exact hup.strict _ _ _ (by omega) (by omega) (by omega)
  · rw [hn] at hi
    rcases Nat.lt_or_ge i p with hip | hip
    · rw [g1 i hip, g4 i hip]; exact hlo.left i (by omega) q hq
    · obtain ⟨j, rfl⟩ : ∃ j, i = p + j := ⟨i - p, by omega⟩
      rw [g2 j (by omega), g5 j (by omega)]; exact hup.left j (by omega) q hq
  · rcases List.mem_append.1 hq with h | h
    · exact hlo.sub _ (List.dropLast_subset _ h)
    · exact hup.sub _ (List.dropLast_subset _ h)
/-- Two chains of one edge: all points on a line. -/
theorem line_all {k l : Int} {a b u v w : Pt} (hab : lin k l a < lin k l b) (hu : det a b u = 0) (hv : det a b v = 0) (hw : det a b w = 0) : det u v w = 0 := by
  have e : (lin k l b - lin k l a) * det u v w = (lin k l v - lin k l u) * (det a b w - det a b u) - (lin k l w - lin k l u) * (det a b v - det a b u) := by unfold det lin; grind
  rw [hu, hv, hw] at e
  exact zero_of_mul (a := lin k l b - lin k l a) (by omega) (by rw [e]; simp)
end Go.Proofs.Yticmfmcflikneaa
