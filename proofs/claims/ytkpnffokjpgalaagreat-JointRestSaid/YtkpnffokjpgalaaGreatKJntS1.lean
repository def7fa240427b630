/- Layer 46 (plain): gaps that lie along edges; when they meet. -/
import Derived.Test.YtkpnffokjpgalaaGreatKJntR3
import Derived.Test.YtkpnffokjpgalaaGreatKJnt26
namespace Go.Proofs.YtkpnffokjpgalaaGreat
set_option linter.unusedVariables false
set_option linter.unusedSimpArgs false
open Go.RowKit

/-- Where a gap begins and ends on an edge, in steps. -/
def gpK (s g : SegP) : Int × Int := (placeK s.1 s.2 g.1, placeK s.1 s.2 g.2)
/-- Does a gap lie along an edge, away from its ends? -/
def alongB (s g : SegP) : Bool := onB s g.1 && (onB s g.2 && (decide (0 < (gpK s g).1) && (decide ((gpK s g).1 < (gpK s g).2) && decide ((gpK s g).2 < stepsK s.1 s.2))))
theorem onB_step {s : SegP} (hs : IsSegN s) (p : Pt) : onB s p = true ↔ onS s.1 s.2 p := by rw [onB_un hs, on_uns hs]
theorem along_iff {s g : SegP} (hs : IsSegN s) : alongB s g = true ↔ ∃ a b, 0 < a ∧ a < b ∧ b < stepsK s.1 s.2 ∧ gpK s g = (a, b) ∧ g = (pointK s.1 s.2 a, pointK s.1 s.2 b) := by
  unfold alongB
  simp only [Bool.and_eq_true, decide_eq_true_eq, onB_step hs]
  constructor
  · rintro ⟨h1, h2, h3, h4, h5⟩
    obtain ⟨a, ⟨a0, a1⟩, ea⟩ := on_step hs.1 h1
    obtain ⟨b, ⟨b0, b1⟩, eb⟩ := on_step hs.1 h2
    have e : gpK s g = (a, b) := by unfold gpK; rw [ea, eb, place_point hs.1, place_point hs.1]
    rw [e] at h3 h4 h5
    exact ⟨a, b, h3, h4, h5, e, Prod.ext ea eb⟩
  · rintro ⟨a, b, h0, h1, h2, e, rfl⟩
    rw [e]
    exact ⟨step_on hs.1 (by omega) (by omega), step_on hs.1 (by omega) (by omega), h0, h1, h2⟩
/-- The same, as the reference reckons it. -/
def liesB (s g : SegP) : Bool := onB s g.1 && (onB s g.2 && (!decide (g.1 = s.1) && (!decide (g.2 = s.1) && (!decide (g.1 = s.2) && (!decide (g.2 = s.2) && decide (0 < (g.2.1 - g.1.1) * (s.2.1 - s.1.1) + (g.2.2 - g.1.2) * (s.2.2 - s.1.2)))))))
theorem norm_pos {v : Pt} (h : v ≠ (0, 0)) : 0 < v.1 * v.1 + v.2 * v.2 := by
  have h1 : 0 ≤ v.1 * v.1 := by rcases Int.le_total 0 v.1 with h | h; exact Int.mul_nonneg h h; exact Int.mul_nonneg_of_nonpos_of_nonpos h h
  have h2 : 0 ≤ v.2 * v.2 := by rcases Int.le_total 0 v.2 with h | h; exact Int.mul_nonneg h h; exact Int.mul_nonneg_of_nonpos_of_nonpos h h
  rcases Int.lt_or_eq_of_le h1 with q | q
  · omega
  · rcases Int.lt_or_eq_of_le h2 with q2 | q2
    · omega
    · exact absurd (Prod.ext ((Int.mul_eq_zero.1 q.symm).elim id id) ((Int.mul_eq_zero.1 q2.symm).elim id id)) h
theorem dirK_ne {a b : Pt} (h : a ≠ b) : dirK a b ≠ (0, 0) := by
  intro e
  obtain ⟨e1, e2⟩ := dirK_mul a b
  rw [e] at e1 e2
  exact h (Prod.ext (by simp at e1; omega) (by simp at e2; omega))
theorem dot_steps {s : SegP} (hs : IsSegN s) (a b : Int) : (0 < ((pointK s.1 s.2 b).1 - (pointK s.1 s.2 a).1) * (s.2.1 - s.1.1) + ((pointK s.1 s.2 b).2 - (pointK s.1 s.2 a).2) * (s.2.2 - s.1.2) ↔ a < b) ∧
    (((pointK s.1 s.2 b).1 - (pointK s.1 s.2 a).1) * (s.2.1 - s.1.1) + ((pointK s.1 s.2 b).2 - (pointK s.1 s.2 a).2) * (s.2.2 - s.1.2) < 0 ↔ b < a) := by
  obtain ⟨e1, e2⟩ := dirK_mul s.1 s.2
  have hg := stepsK_pos hs.1
  have hn := norm_pos (dirK_ne hs.1)
  unfold pointK
  rw [← e1, ← e2]
  generalize dirK s.1 s.2 = v at *
  generalize stepsK s.1 s.2 = g at *
  have e : (s.1.1 + v.1 * b - (s.1.1 + v.1 * a)) * (v.1 * g) + (s.1.2 + v.2 * b - (s.1.2 + v.2 * a)) * (v.2 * g) = (g * (v.1 * v.1 + v.2 * v.2)) * (b - a) := by grind
  simp only
  rw [e]
  have hp : 0 < g * (v.1 * v.1 + v.2 * v.2) := Int.mul_pos hg hn
  generalize g * (v.1 * v.1 + v.2 * v.2) = q at *
  constructor
  · constructor
    · intro h
      have := pos_of_mul hp h
      omega
    · intro h
      exact Int.mul_pos hp (by omega)
  · constructor
    · intro h
      have h2 : 0 < q * (a - b) := by rw [show a - b = -(b - a) by omega, Int.mul_neg]; omega
      have := pos_of_mul hp h2
      omega
    · intro h
      have := Int.mul_pos hp (show 0 < a - b by omega)
      rw [show a - b = -(b - a) by omega, Int.mul_neg] at this
      omega
theorem lies_along {s : SegP} (hs : IsSegN s) (g : SegP) : liesB s g = alongB s g := by
  have hk := dirK_key hs.1 hs.2.1 hs.2.2
  have hg := stepsK_pos hs.1
  apply Bool.eq_iff_iff.2
  rw [along_iff hs]
  unfold liesB
  simp only [Bool.and_eq_true, Bool.not_eq_true', decide_eq_true_eq, decide_eq_false_iff_not, onB_step hs]
  constructor
  · rintro ⟨h1, h2, h3, h4, h5, h6, h7⟩
    obtain ⟨a, ⟨a0, a1⟩, ea⟩ := on_step hs.1 h1
    obtain ⟨b, ⟨b0, b1⟩, eb⟩ := on_step hs.1 h2
    rw [ea, eb] at h7
    have hab := (dot_steps hs a b).1.1 h7
    have e : gpK s g = (a, b) := by unfold gpK; rw [ea, eb, place_point hs.1, place_point hs.1]
    refine ⟨a, b, ?_, hab, ?_, e, Prod.ext ea eb⟩
    · rcases Int.lt_or_eq_of_le a0 with q | q
      · exact q
      · exact absurd (by rw [ea, ← q, pointK_0]) h3
    · rcases Int.lt_or_eq_of_le b1 with q | q
      · exact q
      · exact absurd (by rw [eb, q, pointK_steps]) h6
  · rintro ⟨a, b, h0, h1, h2, e, rfl⟩
    have inj : ∀ i j, pointK s.1 s.2 i = pointK s.1 s.2 j → i = j := fun i j q => by rw [pointK_pt, pointK_pt] at q; exact pt_inj hk q
    refine ⟨step_on hs.1 (by omega) (by omega), step_on hs.1 (by omega) (by omega), ?_, ?_, ?_, ?_, (dot_steps hs a b).1.2 h1⟩
    · intro q; have := inj a 0 (by rw [pointK_0]; exact q); omega
    · intro q; have := inj b 0 (by rw [pointK_0]; exact q); omega
    · intro q; have := inj a (stepsK s.1 s.2) (by rw [pointK_steps]; exact q); omega
    · intro q; have := inj b (stepsK s.1 s.2) (by rw [pointK_steps]; exact q); omega
theorem along_N {s g : SegP} (hs : IsSegN s) (h : alongB s g = true) : IsSegN g := by
  obtain ⟨a, b, h0, h1, h2, -, rfl⟩ := (along_iff hs).1 h
  have hk := dirK_key hs.1 hs.2.1 hs.2.2
  refine ⟨fun q => ?_, point_near hs (by omega) (by omega), point_near hs (by omega) (by omega)⟩
  simp only at q
  rw [pointK_pt, pointK_pt] at q
  have := pt_inj hk q
  omega
/-- A gap lies along one edge at most. -/
theorem along_one {r : List Pt} (h : okB r = true) {i k : Nat} (hi : i < (edgesV r).length) (hk : k < (edgesV r).length) {g : SegP} (h1 : alongB (edgesV r)[i] g = true) (h2 : alongB (edgesV r)[k] g = true) : i = k := by
  have hE := okB_edgeN h
  have nd := ring_nodup h
  rw [← hE.1] at nd
  unfold unL at nd
  rw [List.Nodup, List.pairwise_flatMap] at nd
  have pw := List.pairwise_iff_getElem.1 nd.2
  have un : ∀ s, IsSegN s → alongB s g = true → ∀ u ∈ uns g, u ∈ uns s := by
    intro s hs ha u hu
    obtain ⟨a, b, h0, h1, h2, -, rfl⟩ := (along_iff hs).1 ha
    have hk := dirK_key hs.1 hs.2.1 hs.2.2
    have hp := prim_dir hs.1
    rw [pointK_pt, pointK_pt] at hu
    obtain ⟨x, x1, x2, rfl⟩ := (mem_uns_pt hk hp (by omega) u).1 hu
    rw [show imin a b = a by unfold imin; split <;> omega] at x1
    rw [show imax a b = b by unfold imax; split <;> omega] at x2
    exact (mem_uns _).2 ⟨x, by omega, by omega, rfl⟩
  have s1 := hE.2 _ (List.getElem_mem hi)
  have s2 := hE.2 _ (List.getElem_mem hk)
  have hgN := along_N s1 h1
  obtain ⟨u, hu⟩ : ∃ u, u ∈ uns g := ⟨_, (mem_uns _).2 ⟨0, Int.le_refl _, stepsK_pos hgN.1, rfl⟩⟩
  have u1 := un _ s1 h1 u hu
  have u2 := un _ s2 h2 u hu
  rcases Nat.lt_trichotomy i k with c | c | c
  · exact absurd rfl (pw i k hi hk c u u1 u u2)
  · exact c
  · exact absurd rfl (pw k i hk hi c u u2 u u1)
/-- Gaps along one edge meet exactly if their stretches do. -/
theorem gap_same {s g h : SegP} (hs : IsSegN s) (hg : alongB s g = true) (hh : alongB s h = true) : (meetK g.1 g.2 h.1 h.2).1 = 0 ↔ (gpK s g).2 < (gpK s h).1 ∨ (gpK s h).2 < (gpK s g).1 := by
  obtain ⟨a, b, a0, a1, a2, e1, rfl⟩ := (along_iff hs).1 hg
  obtain ⟨c, d, c0, c1, c2, e2, rfl⟩ := (along_iff hs).1 hh
  have hk := dirK_key hs.1 hs.2.1 hs.2.2
  rw [e1, e2]
  simp only [pointK_pt]
  rw [(line_meet hk (x := a) (y := b) (i := c) (j := d) (by omega) (by omega)).1]
  have l1 : loI a b c d = imax a c := by unfold loI; rw [show imin a b = a by unfold imin; split <;> omega, show imin c d = c by unfold imin; split <;> omega]
  have l2 : hiI a b c d = imin b d := by unfold hiI; rw [show imax a b = b by unfold imax; split <;> omega, show imax c d = d by unfold imax; split <;> omega]
  rw [l1, l2]
  have m1 : (imax a c = a ∧ c ≤ a) ∨ (imax a c = c ∧ a ≤ c) := by unfold imax; split <;> omega
  have m2 : (imin b d = b ∧ b ≤ d) ∨ (imin b d = d ∧ d ≤ b) := by unfold imin; split <;> omega
  generalize imax a c = M at *
  generalize imin b d = m at *
  by_cases q1 : M = m
  · rw [if_pos q1]
    omega
  · rw [if_neg q1]
    by_cases q2 : M < m
    · rw [if_pos q2]
      omega
    · rw [if_neg q2]
      omega
theorem mul_cases {x y : Int} (hx : 0 < x) : (0 ≤ x * y ↔ 0 ≤ y) ∧ (0 < x * y ↔ 0 < y) := by
  have h1 : 0 < x * y ↔ 0 < y := ⟨fun h => pos_of_mul hx h, fun h => Int.mul_pos hx h⟩
  refine ⟨⟨fun h => ?_, fun h => Int.mul_nonneg (by omega) h⟩, h1⟩
  rcases Int.lt_or_le y 0 with c | c
  · have := Int.mul_neg_of_pos_of_neg hx c
    omega
  · exact c
/-- Gaps along different edges do not meet, if the edges do so at an end at most. -/
theorem gap_apart {s o g h : SegP} (hs : IsSegN s) (ho : IsSegN o) (hm : (meetK s.1 s.2 o.1 o.2).1 = 0 ∨ (meetK s.1 s.2 o.1 o.2).1 = 1) (hg : alongB s g = true) (hh : alongB o h = true) : (meetK g.1 g.2 h.1 h.2).1 = 0 := by
  have hgN := along_N hs hg
  have hhN := along_N ho hh
  obtain ⟨a, b, a0, a1, a2, -, rfl⟩ := (along_iff hs).1 hg
  obtain ⟨c, d, c0, c1, c2, -, rfl⟩ := (along_iff ho).1 hh
  by_cases hl : ∃ i j : Int, i ≠ j ∧ o.1 = pointK s.1 s.2 i ∧ o.2 = pointK s.1 s.2 j
  · obtain ⟨i, j, hij, hi, hj⟩ := hl
    have hk := dirK_key hs.1 hs.2.1 hs.2.2
    have hp := prim_dir hs.1
    have e := (line_meet (a := s.1) hk (x := 0) (y := stepsK s.1 s.2) (i := i) (j := j) (by omega) hij).1
    simp only [← pointK_pt, pointK_0, pointK_steps, ← hi, ← hj] at e
    rw [e] at hm
    have hst : stepsK o.1 o.2 = ((j - i).natAbs : Int) := by rw [hi, hj, pointK_pt, pointK_pt, steps_pt hp]
    have hdr : dirK o.1 o.2 = if i < j then dirK s.1 s.2 else ngK (dirK s.1 s.2) := by rw [hi, hj, pointK_pt, pointK_pt, dir_pt hp hij]
    have pts : ∀ x, pointK o.1 o.2 x = ptK s.1 (dirK s.1 s.2) (if i < j then i + x else i - x) := by
      intro x
      rw [pointK_pt, hdr, hi, pointK_pt]
      split
      · exact ptK_pt _ _ _ _
      · exact ptK_ng _ _ _ _
    simp only [pts]
    rw [pointK_pt, pointK_pt, (line_meet hk (x := a) (y := b) (i := if i < j then i + c else i - c) (j := if i < j then i + d else i - d) (by omega) (by split <;> omega)).1]
    generalize stepsK s.1 s.2 = S at *
    by_cases q : i < j
    · simp only [if_pos q]
      have l1 : loI a b (i + c) (i + d) = imax a (i + c) := by unfold loI; rw [show imin a b = a by unfold imin; split <;> omega, show imin (i + c) (i + d) = i + c by unfold imin; split <;> omega]
      have l2 : hiI a b (i + c) (i + d) = imin b (i + d) := by unfold hiI; rw [show imax a b = b by unfold imax; split <;> omega, show imax (i + c) (i + d) = i + d by unfold imax; split <;> omega]
      have l3 : loI 0 S i j = imax 0 i := by unfold loI; rw [show imin 0 S = 0 by unfold imin; split <;> omega, show imin i j = i by unfold imin; split <;> omega]
      have l4 : hiI 0 S i j = imin S j := by unfold hiI; rw [show imax 0 S = S by unfold imax; split <;> omega, show imax i j = j by unfold imax; split <;> omega]
      rw [l3, l4] at hm
      rw [l1, l2]
      have f : ¬ imax 0 i < imin S j := by
        intro f
        rw [if_neg (by omega), if_pos f] at hm
        omega
      have f1 : ¬ imax a (i + c) ≤ imin b (i + d) := by
        unfold imax imin at *
        split at f <;> split at f <;> split <;> split <;> omega
      rw [if_neg (by omega), if_neg (by omega)]
    · simp only [if_neg q]
      have l1 : loI a b (i - c) (i - d) = imax a (i - d) := by unfold loI; rw [show imin a b = a by unfold imin; split <;> omega, show imin (i - c) (i - d) = i - d by unfold imin; split <;> omega]
      have l2 : hiI a b (i - c) (i - d) = imin b (i - c) := by unfold hiI; rw [show imax a b = b by unfold imax; split <;> omega, show imax (i - c) (i - d) = i - c by unfold imax; split <;> omega]
      have l3 : loI 0 S i j = imax 0 j := by unfold loI; rw [show imin 0 S = 0 by unfold imin; split <;> omega, show imin i j = j by unfold imin; split <;> omega]
      have l4 : hiI 0 S i j = imin S i := by unfold hiI; rw [show imax 0 S = S by unfold imax; split <;> omega, show imax i j = i by unfold imax; split <;> omega]
      rw [l3, l4] at hm
      rw [l1, l2]
      have f : ¬ imax 0 j < imin S i := by
        intro f
        rw [if_neg (by omega), if_pos f] at hm
        omega
      have f1 : ¬ imax a (i - d) ≤ imin b (i - c) := by
        unfold imax imin at *
        split at f <;> split at f <;> split <;> split <;> omega
      rw [if_neg (by omega), if_neg (by omega)]
  · have hS := stepsK_pos hs.1
    have hT := stepsK_pos ho.1
    obtain ⟨s1, s2⟩ := dirK_mul s.1 s.2
    obtain ⟨o1, o2⟩ := dirK_mul o.1 o.2
    by_cases hcr : cr4 s.1 s.2 o.1 o.2 = 0
    · -- one direction, two lines
      have hd : det s.1 s.2 o.1 ≠ 0 := by
        intro h0
        obtain ⟨i, hi⟩ := line_pt hs.1 h0
        obtain ⟨j, hj⟩ := line_pt hs.1 (show det s.1 s.2 o.2 = 0 by rw [det_b, h0, hcr]; rfl)
        exact hl ⟨i, j, fun e => ho.1 (by rw [hi, hj, e]), hi, hj⟩
      obtain ⟨v, hv⟩ : ∃ v, v = dirK s.1 s.2 := ⟨_, rfl⟩
      obtain ⟨u, hu⟩ : ∃ u, u = dirK o.1 o.2 := ⟨_, rfl⟩
      have hD : v.1 * u.2 - v.2 * u.1 = 0 := by
        have : (stepsK s.1 s.2 * stepsK o.1 o.2) * (v.1 * u.2 - v.2 * u.1) = 0 := by
          rw [← hcr]; unfold cr4; rw [← s1, ← s2, ← o1, ← o2, ← hv, ← hu]; grind
        exact (Int.mul_eq_zero.1 this).resolve_left (fun e => by have := Int.mul_pos hS hT; omega)
      have hX : v.1 * (o.1.2 - s.1.2) - v.2 * (o.1.1 - s.1.1) ≠ 0 := by
        intro e
        apply hd
        have : det s.1 s.2 o.1 = stepsK s.1 s.2 * (v.1 * (o.1.2 - s.1.2) - v.2 * (o.1.1 - s.1.1)) := by unfold det; rw [← s1, ← s2, ← hv]; grind
        rw [this, e, Int.mul_zero]
      have c0' : cr4 (pointK s.1 s.2 a) (pointK s.1 s.2 b) (pointK o.1 o.2 c) (pointK o.1 o.2 d) = 0 := by
        have : cr4 (pointK s.1 s.2 a) (pointK s.1 s.2 b) (pointK o.1 o.2 c) (pointK o.1 o.2 d) = ((b - a) * (d - c)) * (v.1 * u.2 - v.2 * u.1) := by unfold cr4 pointK; rw [← hv, ← hu]; simp only; grind
        rw [this, hD, Int.mul_zero]
      have c1' : det (pointK s.1 s.2 a) (pointK s.1 s.2 b) (pointK o.1 o.2 c) ≠ 0 := by
        have : det (pointK s.1 s.2 a) (pointK s.1 s.2 b) (pointK o.1 o.2 c) = (b - a) * ((v.1 * (o.1.2 - s.1.2) - v.2 * (o.1.1 - s.1.1)) + c * (v.1 * u.2 - v.2 * u.1)) := by unfold det pointK; rw [← hv, ← hu]; simp only; grind
        rw [this, hD, Int.mul_zero, Int.add_zero]
        intro e
        rcases Int.mul_eq_zero.1 e with e | e
        · omega
        · exact hX e
      have n1 : pointK s.1 s.2 a ≠ pointK s.1 s.2 b := hgN.1
      have n2 : pointK o.1 o.2 c ≠ pointK o.1 o.2 d := hhN.1
      simp only
      unfold meetK
      rw [if_neg (by rw [c0']; simp), if_neg (fun e => n1 e.1), if_neg (fun e => n2 e.1), if_pos (.inr (.inr c1'))]
    · obtain ⟨v, hv⟩ : ∃ v, v = dirK s.1 s.2 := ⟨_, rfl⟩
      obtain ⟨u, hu⟩ : ∃ u, u = dirK o.1 o.2 := ⟨_, rfl⟩
      obtain ⟨S, hSd⟩ : ∃ S, S = stepsK s.1 s.2 := ⟨_, rfl⟩
      obtain ⟨T, hTd⟩ : ∃ T, T = stepsK o.1 o.2 := ⟨_, rfl⟩
      obtain ⟨D, hD⟩ : ∃ D, D = v.1 * u.2 - v.2 * u.1 := ⟨_, rfl⟩
      obtain ⟨X, hX⟩ : ∃ X, X = u.1 * (s.1.2 - o.1.2) - u.2 * (s.1.1 - o.1.1) := ⟨_, rfl⟩
      obtain ⟨Y, hY⟩ : ∃ Y, Y = -(v.1 * (o.1.2 - s.1.2) - v.2 * (o.1.1 - s.1.1)) := ⟨_, rfl⟩
      rw [← hSd] at hS s1 s2 a2
      rw [← hTd] at hT o1 o2 c2
      rw [← hv] at s1 s2
      rw [← hu] at o1 o2
      have k1 : cr4 s.1 s.2 o.1 o.2 = (S * T) * D := by unfold cr4; rw [← s1, ← s2, ← o1, ← o2, hD]; grind
      have k2 : det o.1 o.2 s.1 = T * X := by unfold det; rw [← o1, ← o2, hX]; grind
      have k3 : -det s.1 s.2 o.1 = S * Y := by unfold det; rw [← s1, ← s2, hY]; grind
      have hST := Int.mul_pos hS hT
      have hD0 : D ≠ 0 := fun e => hcr (by rw [k1, e, Int.mul_zero])
      have hba : 0 < b - a := by omega
      have hdc : 0 < d - c := by omega
      have hbd := Int.mul_pos hba hdc
      have m1 : cr4 (pointK s.1 s.2 a) (pointK s.1 s.2 b) (pointK o.1 o.2 c) (pointK o.1 o.2 d) = ((b - a) * (d - c)) * D := by unfold cr4 pointK; rw [← hv, ← hu, hD]; simp only; grind
      have m2 : det (pointK o.1 o.2 c) (pointK o.1 o.2 d) (pointK s.1 s.2 a) = (d - c) * (X - a * D) := by unfold det pointK; rw [← hv, ← hu, hD, hX]; simp only; grind
      have m3 : -det (pointK s.1 s.2 a) (pointK s.1 s.2 b) (pointK o.1 o.2 c) = (b - a) * (Y - c * D) := by unfold det pointK; rw [← hv, ← hu, hD, hY]; simp only; grind
      have hm1 : cr4 (pointK s.1 s.2 a) (pointK s.1 s.2 b) (pointK o.1 o.2 c) (pointK o.1 o.2 d) ≠ 0 := by
        rw [m1]; intro e
        rcases Int.mul_eq_zero.1 e with e | e
        · omega
        · exact hD0 e
      simp only
      unfold meetK at hm ⊢
      rw [if_pos hcr] at hm
      rw [if_pos hm1]
      simp only at hm ⊢
      rw [m1, m2, m3]
      rw [k1, k2, k3] at hm
      by_cases hb : (btwB ((d - c) * (X - a * D)) ((b - a) * (d - c) * D) && btwB ((b - a) * (Y - c * D)) ((b - a) * (d - c) * D)) = true
      · exfalso
        rw [Bool.and_eq_true] at hb
        obtain ⟨hb1, hb2⟩ := hb
        unfold btwB at hb1 hb2
        rw [decide_eq_true_eq] at hb1 hb2
        -- scale to the lines' own numbers
        have t1 : ∀ z w : Int, 0 < z → ((0 ≤ z * w ↔ 0 ≤ w) ∧ (z * w ≤ 0 ↔ w ≤ 0)) := fun z w hz => ⟨(mul_cases hz).1, by
          have := (mul_cases (x := z) (y := -w) hz).1
          rw [Int.mul_neg] at this
          omega⟩
        have e1 : (b - a) * (d - c) * D - (d - c) * (X - a * D) = (d - c) * (b * D - X) := by grind
        have e2 : (b - a) * (d - c) * D - (b - a) * (Y - c * D) = (b - a) * (d * D - Y) := by grind
        have p1 := t1 (d - c) (X - a * D) hdc
        have p2 := t1 (d - c) (b * D - X) hdc
        have p3 := t1 (b - a) (Y - c * D) hba
        have p4 := t1 (b - a) (d * D - Y) hba
        have x1 : (a * D ≤ X ∧ X ≤ b * D) ∨ (b * D ≤ X ∧ X ≤ a * D) := by omega
        have y1 : (c * D ≤ Y ∧ Y ≤ d * D) ∨ (d * D ≤ Y ∧ Y ≤ c * D) := by omega
        have fin : (0 < T * X ∧ T * X < (S * T) * D) ∧ (0 < S * Y ∧ S * Y < (S * T) * D) ∨ ((S * T) * D < T * X ∧ T * X < 0) ∧ ((S * T) * D < S * Y ∧ S * Y < 0) := by
          have g1 : (S * T) * D - T * X = T * (S * D - X) := by grind
          have g2 : (S * T) * D - S * Y = S * (T * D - Y) := by grind
          rcases Int.lt_or_lt_of_ne hD0 with hn | hn
          · right
            have q1 := Int.mul_neg_of_pos_of_neg a0 hn
            have q2 := Int.mul_neg_of_pos_of_neg (show 0 < S - b by omega) hn
            have q3 := Int.mul_neg_of_pos_of_neg c0 hn
            have q4 := Int.mul_neg_of_pos_of_neg (show 0 < T - d by omega) hn
            have q5 := Int.mul_neg_of_pos_of_neg hba hn
            have q6 := Int.mul_neg_of_pos_of_neg hdc hn
            rw [Int.sub_mul] at q2 q4 q5 q6
            have r1 := Int.mul_neg_of_pos_of_neg hT (show X < 0 by omega)
            have r2 := Int.mul_neg_of_pos_of_neg hT (show S * D - X < 0 by omega)
            have r3 := Int.mul_neg_of_pos_of_neg hS (show Y < 0 by omega)
            have r4 := Int.mul_neg_of_pos_of_neg hS (show T * D - Y < 0 by omega)
            omega
          · left
            have q1 := Int.mul_pos a0 hn
            have q2 := Int.mul_pos (show 0 < S - b by omega) hn
            have q3 := Int.mul_pos c0 hn
            have q4 := Int.mul_pos (show 0 < T - d by omega) hn
            have q5 := Int.mul_pos hba hn
            have q6 := Int.mul_pos hdc hn
            rw [Int.sub_mul] at q2 q4 q5 q6
            have r1 := Int.mul_pos hT (show 0 < X by omega)
            have r2 := Int.mul_pos hT (show 0 < S * D - X by omega)
            have r3 := Int.mul_pos hS (show 0 < Y by omega)
            have r4 := Int.mul_pos hS (show 0 < T * D - Y by omega)
            omega
        have hb3 : (btwB (T * X) (S * T * D) && btwB (S * Y) (S * T * D)) = true := by
          unfold btwB
          rw [Bool.and_eq_true, decide_eq_true_eq, decide_eq_true_eq]
          omega
        rw [if_pos hb3] at hm
        have hd3 : det s.1 s.2 o.1 = -(S * Y) := by omega
        rw [hd3, if_neg (by omega)] at hm
        omega
      · rw [if_neg hb]
end Go.Proofs.YtkpnffokjpgalaaGreat
/- Layer 46 (plain): the rest of a ring without gaps. -/
namespace Go.Proofs.YtkpnffokjpgalaaGreat
set_option linter.unusedVariables false
set_option linter.unusedSimpArgs false
open Go.RowKit

/-- Where the gaps along an edge lie on it. -/
def foundP (s : SegP) (G : List SegP) : List (Int × Int) := (G.filter fun g => alongB s g).map (gpK s)
def leP (a b : Int × Int) : Bool := decide (a.1 ≤ b.1)
def sortP (F : List (Int × Int)) : List (Int × Int) := F.mergeSort leP
def aptP (a b : Int × Int) : Prop := a.2 < b.1 ∨ b.2 < a.1
instance (a b : Int × Int) : Decidable (aptP a b) := inferInstanceAs (Decidable (_ ∨ _))
def apartP (l : List (Int × Int)) : Bool := decide (l.Pairwise aptP)
/-- One edge: the paths that end on it, and the one that goes on. -/
def cutP (s : SegP) : List (Int × Int) → List Pt → List (List Pt) × List Pt
  | [], P => ([], P ++ [s.2])
  | c :: l, P => ((P ++ [pointK s.1 s.2 c.1]) :: (cutP s l [pointK s.1 s.2 c.2]).1, (cutP s l [pointK s.1 s.2 c.2]).2)
def walkP : List (SegP × List (Int × Int)) → List Pt → List (List Pt)
  | [], P => [P]
  | e :: t, P => (cutP e.1 e.2 P).1 ++ walkP t (cutP e.1 e.2 P).2
def properB (E G : List SegP) : Bool := G.all (fun g => E.any fun s => alongB s g) && E.all fun s => apartP (foundP s G)
def edgeAt (E : List SegP) (k : Nat) : SegP := E.getD k noSeg
def tourAt (E G : List SegP) (at_ n : Nat) : SegP × List (Int × Int) := (edgeAt E ((at_ + n) % E.length), sortP (foundP (edgeAt E ((at_ + n) % E.length)) G))
def tourP (E G : List SegP) (at_ : Nat) : List (SegP × List (Int × Int)) := (List.range E.length).map (tourAt E G at_)
/-- What Split answers. -/
def splitR (r : List Pt) (at_ : Int) (G : List SegP) : List (List Pt) × Int :=
  if okB r then (if at_ < 0 ∨ (r.length : Int) ≤ at_ then ([], 2) else if properB (edgesV r) G then (walkP (tourP (edgesV r) G at_.toNat) [at0 r at_.toNat], 0) else ([], 1)) else ([], 11)
theorem tourP_drop {E G : List SegP} {at_ n : Nat} (h : n < E.length) : (tourP E G at_).drop n = tourAt E G at_ n :: (tourP E G at_).drop (n + 1) := by
  unfold tourP
  rw [List.drop_eq_getElem_cons (by simpa using h)]
  simp
theorem tourP_end (E G : List SegP) (at_ : Nat) : (tourP E G at_).drop E.length = [] := by unfold tourP; simp
theorem edgeAt_get {E : List SegP} {k : Nat} (h : k < E.length) : edgeAt E k = E[k] := by unfold edgeAt; simp [List.getD_eq_getElem?_getD, h]
theorem foundP_mem {s : SegP} {G : List SegP} {c : Int × Int} : c ∈ foundP s G ↔ ∃ g ∈ G, alongB s g = true ∧ gpK s g = c := by
  unfold foundP
  simp only [List.mem_map, List.mem_filter]
  constructor
  · rintro ⟨g, ⟨h1, h2⟩, h3⟩; exact ⟨g, h1, h2, h3⟩
  · rintro ⟨g, h1, h2, h3⟩; exact ⟨g, ⟨h1, h2⟩, h3⟩
theorem foundP_in {s : SegP} (hs : IsSegN s) {G : List SegP} {c : Int × Int} (h : c ∈ foundP s G) : 0 < c.1 ∧ c.1 < c.2 ∧ c.2 < stepsK s.1 s.2 := by
  obtain ⟨g, -, h1, rfl⟩ := foundP_mem.1 h
  obtain ⟨a, b, a0, a1, a2, e, -⟩ := (along_iff hs).1 h1
  rw [e]; exact ⟨a0, a1, a2⟩
theorem foundP_len (s : SegP) (G : List SegP) : (foundP s G).length ≤ G.length := by
  unfold foundP
  rw [List.length_map]
  exact List.length_filter_le _ _
theorem aptP_symm {a b : Int × Int} (h : aptP a b) : aptP b a := Or.symm h
/-- Sorted stretches that are apart come one behind the other. -/
theorem apart_sorted {F M : List (Int × Int)} (hF : ∀ c ∈ F, c.1 < c.2) (hp : M.Perm F) (hs : M.Pairwise fun a b => a.1 ≤ b.1) : apartP F = true ↔ M.Pairwise fun a b => a.2 < b.1 := by
  unfold apartP
  rw [decide_eq_true_eq, ← hp.pairwise_iff (R := aptP) (fun h => aptP_symm h)]
  constructor
  · intro h
    refine (List.Pairwise.and h hs).imp_of_mem ?_
    rintro a b ha hb ⟨h1, h2⟩
    have := hF a (hp.mem_iff.1 ha)
    have := hF b (hp.mem_iff.1 hb)
    unfold aptP at h1
    omega
  · intro h
    exact h.imp fun h => .inl h
theorem sort_is {F M : List (Int × Int)} (hF : ∀ c ∈ F, c.1 < c.2) (hp : M.Perm F) (hs : M.Pairwise fun a b => a.1 ≤ b.1) (ha : apartP F = true) : M = sortP F := by
  have h1 : (sortP F).Perm F := List.mergeSort_perm _ _
  have h2 : (sortP F).Pairwise fun a b => a.1 ≤ b.1 := by
    have := List.pairwise_mergeSort (le := leP) (fun a b c h1 h2 => by unfold leP at *; simp only [decide_eq_true_eq] at *; omega) (fun a b => by unfold leP; simp only [Bool.or_eq_true, decide_eq_true_eq]; omega) F
    exact this.imp fun h => by unfold leP at h; simpa using h
  refine List.Perm.eq_of_pairwise (le := fun a b => a.1 ≤ b.1) ?_ hs h2 (hp.trans h1.symm)
  intro a b ham hbm e1 e2
  have haF := hp.mem_iff.1 ham
  have hbF := h1.mem_iff.1 hbm
  unfold apartP at ha
  rw [decide_eq_true_eq] at ha
  obtain ⟨i, hi, rfl⟩ := List.mem_iff_getElem.1 haF
  obtain ⟨k, hk, rfl⟩ := List.mem_iff_getElem.1 hbF
  have f1 := hF _ haF
  have f2 := hF _ hbF
  rcases Nat.lt_trichotomy i k with c | c | c
  · have := List.pairwise_iff_getElem.1 ha i k hi hk c
    unfold aptP at this
    omega
  · subst c; rfl
  · have := List.pairwise_iff_getElem.1 ha k i hk hi c
    unfold aptP at this
    omega
theorem sortP_perm (F : List (Int × Int)) : (sortP F).Perm F := List.mergeSort_perm _ _
theorem sortP_asc {F : List (Int × Int)} (hF : ∀ c ∈ F, c.1 < c.2) (ha : apartP F = true) : (sortP F).Pairwise fun a b => a.2 < b.1 := by
  have h2 : (sortP F).Pairwise fun a b => a.1 ≤ b.1 := by
    have := List.pairwise_mergeSort (le := leP) (fun a b c h1 h2 => by unfold leP at *; simp only [decide_eq_true_eq] at *; omega) (fun a b => by unfold leP; simp only [Bool.or_eq_true, decide_eq_true_eq]; omega) F
    exact this.imp fun h => by unfold leP at h; simpa using h
  exact (apart_sorted hF (sortP_perm F) h2).1 ha
/-- Neighbours that come one behind the other are enough. -/
theorem chain_all {M : List (Int × Int)} (hM : ∀ c ∈ M, c.1 < c.2) (h : ∀ k (hk : k + 1 < M.length), M[k].2 < M[k + 1].1) : M.Pairwise fun a b => a.2 < b.1 := by
  refine List.pairwise_iff_getElem.2 ?_
  intro i k hi hk hik
  induction k with
  | zero => omega
  | succ k ih =>
    have h1 := h k hk
    rcases Nat.lt_or_eq_of_le (Nat.lt_succ_iff.1 hik) with c | c
    · have h2 := ih (by omega) c
      have h3 := hM _ (List.getElem_mem (show k < M.length by omega))
      omega
    · subst c; exact h1
theorem proper_apart {E G : List SegP} (h : properB E G = true) {i : Nat} (hi : i < E.length) : apartP (foundP (edgeAt E i) G) = true := by
  unfold properB at h
  rw [Bool.and_eq_true] at h
  rw [edgeAt_get hi]
  exact List.all_eq_true.1 h.2 _ (List.getElem_mem hi)
theorem proper_of {E G : List SegP} {at_ : Nat} (h1 : ∀ g ∈ G, E.any (fun s => alongB s g) = true) (hat : at_ < E.length) (h2 : ∀ n, n < E.length → apartP (foundP (edgeAt E ((at_ + n) % E.length)) G) = true) : properB E G = true := by
  unfold properB
  rw [Bool.and_eq_true]
  refine ⟨List.all_eq_true.2 h1, List.all_eq_true.2 fun s hs => ?_⟩
  obtain ⟨i, hi, rfl⟩ := List.mem_iff_getElem.1 hs
  have := h2 ((i + E.length - at_) % E.length) (Nat.mod_lt _ (by omega))
  have e : (at_ + (i + E.length - at_) % E.length) % E.length = i := by
    rw [Nat.add_mod_mod, show at_ + (i + E.length - at_) = i + E.length by omega, Nat.add_mod_right, Nat.mod_eq_of_lt hi]
  rw [e, edgeAt_get hi] at this
  exact this
/-- The next gap along an edge, as the reference finds it. -/
def bestK (s : SegP) (f : Int) : List SegP → Option SegP → Option SegP
  | [], b => b
  | g :: G, b => bestK s f G (if alongB s g && (decide (f ≤ (gpK s g).1) && (match b with | none => true | some x => decide ((gpK s g).1 < (gpK s x).1))) then some g else b)
def fitK (s : SegP) (f : Int) (g : SegP) : Prop := alongB s g = true ∧ f ≤ (gpK s g).1
theorem best_spec (s : SegP) (f : Int) : ∀ (G : List SegP) (b : Option SegP), (∀ x, b = some x → fitK s f x) →
    (bestK s f G b = none → b = none ∧ ∀ g ∈ G, ¬ fitK s f g) ∧ ∀ x, bestK s f G b = some x → fitK s f x ∧ (b = some x ∨ x ∈ G) ∧ (∀ y, b = some y → (gpK s x).1 ≤ (gpK s y).1) ∧ ∀ g ∈ G, fitK s f g → (gpK s x).1 ≤ (gpK s g).1
  | [], b, hb => by
    refine ⟨fun h => ⟨h, fun g hg => by cases hg⟩, fun x hx => ⟨hb x hx, .inl hx, fun y hy => ?_, fun g hg => by cases hg⟩⟩
    have : some x = some y := by rw [← hx]; exact hy
    rw [Option.some.inj this]; exact Int.le_refl _
  | g :: G, b, hb => by
    unfold bestK
    by_cases h1 : alongB s g = true ∧ f ≤ (gpK s g).1
    · have hfit : fitK s f g := h1
      cases b with
      | none =>
        rw [if_pos (by rw [h1.1, decide_eq_true h1.2]; rfl)]
        obtain ⟨i1, i2⟩ := best_spec s f G (some g) (fun x hx => by rw [← Option.some.inj hx]; exact hfit)
        refine ⟨fun h => (by have := (i1 h).1; cases this), fun x hx => ?_⟩
        obtain ⟨j1, j2, j3, j4⟩ := i2 x hx
        refine ⟨j1, .inr ?_, (fun y hy => by cases hy), fun q hq hf => ?_⟩
        · rcases j2 with e | e
          · rw [← Option.some.inj e]; simp
          · simp [e]
        · rcases List.mem_cons.1 hq with rfl | hq
          · exact j3 _ rfl
          · exact j4 q hq hf
      | some z =>
        by_cases h2 : (gpK s g).1 < (gpK s z).1
        · rw [if_pos (by simp only; rw [h1.1, decide_eq_true h1.2, decide_eq_true h2]; rfl)]
          obtain ⟨i1, i2⟩ := best_spec s f G (some g) (fun x hx => by rw [← Option.some.inj hx]; exact hfit)
          refine ⟨fun h => (by have := (i1 h).1; cases this), fun x hx => ?_⟩
          obtain ⟨j1, j2, j3, j4⟩ := i2 x hx
          have j5 := j3 _ rfl
          refine ⟨j1, .inr ?_, fun y hy => by rw [← Option.some.inj hy]; omega, fun q hq hf => ?_⟩
          · rcases j2 with e | e
            · rw [← Option.some.inj e]; simp
            · simp [e]
          · rcases List.mem_cons.1 hq with rfl | hq
            · exact j5
            · exact j4 q hq hf
        · rw [if_neg (by simp only; rw [decide_eq_false h2]; simp)]
          obtain ⟨i1, i2⟩ := best_spec s f G (some z) hb
          refine ⟨fun h => (by have := (i1 h).1; cases this), fun x hx => ?_⟩
          obtain ⟨j1, j2, j3, j4⟩ := i2 x hx
          have j5 := j3 _ rfl
          refine ⟨j1, j2.imp id (fun e => by simp [e]), j3, fun q hq hf => ?_⟩
          rcases List.mem_cons.1 hq with rfl | hq
          · omega
          · exact j4 q hq hf
    · rw [if_neg (by rw [Bool.and_eq_true, Bool.and_eq_true, decide_eq_true_eq]; exact fun h => h1 ⟨h.1, h.2.1⟩)]
      obtain ⟨i1, i2⟩ := best_spec s f G b hb
      refine ⟨fun h => ⟨(i1 h).1, fun q hq hf => ?_⟩, fun x hx => ?_⟩
      · rcases List.mem_cons.1 hq with rfl | hq
        · exact h1 hf
        · exact (i1 h).2 q hq hf
      · obtain ⟨j1, j2, j3, j4⟩ := i2 x hx
        refine ⟨j1, j2.imp id (fun e => by simp [e]), j3, fun q hq hf => ?_⟩
        rcases List.mem_cons.1 hq with rfl | hq
        · exact absurd hf h1
        · exact j4 q hq hf
/-- The next gap is the next of the sorted ones. -/
theorem best_sorted {s : SegP} {G : List SegP} (hs : IsSegN s) (ha : apartP (foundP s G) = true) {f : Int} {j : Nat} (h1 : ∀ i (h : i < (sortP (foundP s G)).length), i < j → (sortP (foundP s G))[i].1 < f) (h2 : ∀ i (h : i < (sortP (foundP s G)).length), j ≤ i → f ≤ (sortP (foundP s G))[i].1) :
    (bestK s f G none = none ∧ (sortP (foundP s G)).length ≤ j) ∨ ∃ g, bestK s f G none = some g ∧ alongB s g = true ∧ ∃ h : j < (sortP (foundP s G)).length, gpK s g = (sortP (foundP s G))[j] := by
  obtain ⟨b1, b2⟩ := best_spec s f G none (fun x hx => by cases hx)
  have hasc := sortP_asc (fun c hc => (foundP_in hs hc).2.1) ha
  have hin : ∀ c ∈ sortP (foundP s G), c.1 < c.2 := fun c hc => (foundP_in hs ((sortP_perm _).mem_iff.1 hc)).2.1
  have mem : ∀ i (h : i < (sortP (foundP s G)).length), ∃ g ∈ G, alongB s g = true ∧ gpK s g = (sortP (foundP s G))[i] := fun i h => foundP_mem.1 ((sortP_perm _).mem_iff.1 (List.getElem_mem h))
  cases hb : bestK s f G none with
  | none =>
    left
    refine ⟨rfl, ?_⟩
    rcases Nat.lt_or_ge j (sortP (foundP s G)).length with c | c
    · obtain ⟨g, g1, g2, g3⟩ := mem j c
      exact absurd ⟨g2, by rw [g3]; exact h2 j c (Nat.le_refl _)⟩ ((b1 hb).2 g g1)
    · exact c
  | some x =>
    right
    obtain ⟨⟨j1, j2⟩, j3, -, j4⟩ := b2 x hb
    have hx : x ∈ G := j3.resolve_left (fun e => by cases e)
    have hm : gpK s x ∈ sortP (foundP s G) := (sortP_perm _).mem_iff.2 (foundP_mem.2 ⟨x, hx, j1, rfl⟩)
    obtain ⟨i, hi, e⟩ := List.mem_iff_getElem.1 hm
    have hji : j ≤ i := by
      rcases Nat.lt_or_ge i j with c | c
      · have := h1 i hi c
        rw [e] at this
        omega
      · exact c
    have hj : j < (sortP (foundP s G)).length := by omega
    refine ⟨x, rfl, j1, hj, ?_⟩
    obtain ⟨g, g1, g2, g3⟩ := mem j hj
    have := j4 g g1 ⟨g2, by rw [g3]; exact h2 j hj (Nat.le_refl _)⟩
    rw [g3] at this
    rcases Nat.lt_or_eq_of_le hji with c | c
    · have h5 := List.pairwise_iff_getElem.1 hasc j i hj hi c
      have h6 := hin _ (List.getElem_mem hj)
      rw [e] at h5
      omega
    · subst c; exact e.symm
/-- The reference's test for gaps. -/
def properR (E G : List SegP) : Prop := ∀ i (hi : i < G.length), E.any (fun s => alongB s G[i]) = true ∧ ∀ k (hk : k < i), meetI G[i] G[k] = 0
theorem proper_iff {r : List Pt} (h : okB r = true) (G : List SegP) : properR (edgesV r) G ↔ properB (edgesV r) G = true := by
  have hE := (okB_edgeN h).2
  have hk := okB_iff.1 h
  have h2 : ¬ r.length < 2 := by have := hk.three; omega
  have hlen := edgesV_len h2
  unfold properR properB
  rw [Bool.and_eq_true, List.all_eq_true, List.all_eq_true]
  have kinds : ∀ i k (hi : i < (edgesV r).length) (hkk : k < (edgesV r).length), i < k → (meetK (edgesV r)[i].1 (edgesV r)[i].2 (edgesV r)[k].1 (edgesV r)[k].2).1 = 0 ∨ (meetK (edgesV r)[i].1 (edgesV r)[i].2 (edgesV r)[k].1 (edgesV r)[k].2).1 = 1 := by
    intro i k hi hkk hik
    rw [hlen] at hi hkk
    have p := hk.pair hkk hik
    rw [edgesV_at h2 hi, edgesV_at h2 hkk]
    unfold pairR at p
    split at p
    · exact .inr p
    · exact .inl p
  constructor
  · intro hR
    refine ⟨fun g hg => ?_, fun s hs => ?_⟩
    · obtain ⟨i, hi, rfl⟩ := List.mem_iff_getElem.1 hg
      exact (hR i hi).1
    · unfold apartP foundP
      rw [decide_eq_true_eq, List.pairwise_map]
      have hpw : G.Pairwise fun a b => meetI b a = 0 := List.pairwise_iff_getElem.2 fun i k hi hk' hik => (hR k hk').2 i hik
      refine (hpw.filter _).imp_of_mem ?_
      intro a b ha hb hm
      have a1 := (List.mem_filter.1 ha).2
      have b1 := (List.mem_filter.1 hb).2
      rw [meetI_K (segN_ok (along_N (hE s hs) b1)) (segN_ok (along_N (hE s hs) a1))] at hm
      exact ((gap_same (hE s hs) b1 a1).1 hm).symm
  · rintro ⟨hA, hB⟩ i hi
    refine ⟨hA _ (List.getElem_mem hi), fun k hki => ?_⟩
    have hkG : k < G.length := by omega
    obtain ⟨s, hs, s1⟩ := List.any_eq_true.1 (hA _ (List.getElem_mem hi))
    obtain ⟨o, ho, o1⟩ := List.any_eq_true.1 (hA _ (List.getElem_mem hkG))
    rw [meetI_K (segN_ok (along_N (hE s hs) s1)) (segN_ok (along_N (hE o ho) o1))]
    obtain ⟨x, hx, rfl⟩ := List.mem_iff_getElem.1 hs
    obtain ⟨y, hy, rfl⟩ := List.mem_iff_getElem.1 ho
    rcases Nat.lt_trichotomy x y with c | c | c
    · exact gap_apart (hE _ hs) (hE _ ho) (kinds x y hx hy c) s1 o1
    · subst c
      refine (gap_same (hE _ hs) s1 o1).2 ?_
      have hap := hB _ hs
      unfold apartP foundP at hap
      rw [decide_eq_true_eq, List.pairwise_map, List.pairwise_filter] at hap
      have := List.pairwise_iff_getElem.1 hap k i hkG hi hki o1 s1
      exact Or.symm this
    · have hc := kinds y x hy hx c
      have := gap_apart (hE _ ho) (hE _ hs) hc o1 s1
      have hN1 := along_N (hE _ hs) s1
      have hN2 := along_N (hE _ ho) o1
      rw [← meetI_K (segN_ok hN2) (segN_ok hN1)] at this
      rw [← meetI_K (segN_ok hN1) (segN_ok hN2), meetI_comm (segN_ok hN1) (segN_ok hN2)]
      exact this
where
  meetI_comm {s t : SegP} (hs : segOk s = true) (ht : segOk t = true) : meetI s t = meetI t s := by
    have k1 := meetK_is (segOk_near.1 hs).1 (segOk_near.1 hs).2 (segOk_near.1 ht).1 (segOk_near.1 ht).2
    have k2 := meetK_is (segOk_near.1 ht).1 (segOk_near.1 ht).2 (segOk_near.1 hs).1 (segOk_near.1 hs).2
    have com : ∀ p, Com s.1 s.2 t.1 t.2 p ↔ Com t.1 t.2 s.1 s.2 p := fun p => by
      unfold Com
      constructor
      · rintro ⟨h1, h2, h3⟩; exact ⟨by rcases h1 with h | h | h | h <;> simp [h], h3, h2⟩
      · rintro ⟨h1, h2, h3⟩; exact ⟨by rcases h1 with h | h | h | h <;> simp [h], h3, h2⟩
    have crs : Crosses s.1 s.2 t.1 t.2 ↔ Crosses t.1 t.2 s.1 s.2 := by unfold Crosses; exact And.comm
    rw [meetI_K hs ht, meetI_K ht hs]
    have two : ∀ k : Int × SegP, key k.2.1 < key k.2.2 → (∀ p, Com s.1 s.2 t.1 t.2 p ↔ p = k.2.1 ∨ p = k.2.2) → ¬ ∃ p, ∀ q, Com s.1 s.2 t.1 t.2 q ↔ q = p := by
      rintro k hlt hc ⟨p, hp⟩
      have e1 := (hp _).1 ((hc k.2.1).2 (.inl rfl))
      have e2 := (hp _).1 ((hc k.2.2).2 (.inr rfl))
      rw [e1, e2] at hlt
      omega
    rcases k1.range with a | a | a | a <;> rcases k2.range with b | b | b | b <;> rw [a, b] <;> exfalso
    · obtain ⟨p, hp⟩ := k2.touch b; exact (k1.none a).1 p ((com p).2 ((hp p).2 rfl))
    · exact (k1.none a).2 (crs.2 (k2.cross b).2)
    · exact (k1.none a).1 _ ((com _).2 (((k2.over b).2 _).2 (.inl rfl)))
    · obtain ⟨p, hp⟩ := k1.touch a; exact (k2.none b).1 p ((com p).1 ((hp p).2 rfl))
    · obtain ⟨p, hp⟩ := k1.touch a; exact (k2.cross b).1 p ((com p).1 ((hp p).2 rfl))
    · refine two _ (k2.over b).1.1 (fun p => (com p).trans ((k2.over b).2 p)) (k1.touch a)
    · exact (k2.none b).2 (crs.1 (k1.cross a).2)
    · obtain ⟨p, hp⟩ := k2.touch b; exact (k1.cross a).1 p ((com p).2 ((hp p).2 rfl))
    · exact (k1.cross a).1 _ ((com _).2 (((k2.over b).2 _).2 (.inl rfl)))
    · exact (k2.none b).1 _ ((com _).1 (((k1.over a).2 _).2 (.inl rfl)))
    · obtain ⟨p, hp⟩ := k2.touch b
      exact two _ (k1.over a).1.1 (k1.over a).2 ⟨p, fun q => (com q).trans (hp q)⟩
    · exact (k2.cross b).1 _ ((com _).1 (((k1.over a).2 _).2 (.inl rfl)))
end Go.Proofs.YtkpnffokjpgalaaGreat
/- Layer 46: rows of rows that the call made. -/
namespace Go.Proofs.YtkpnffokjpgalaaGreat
set_option linter.unusedVariables false
set_option linter.unusedSimpArgs false
open Go.RowKit Go.Sort

theorem Owns.setNeJ {α : Type} {enc : α → List Value} {k base : Nat} {e : TypeId} {w : World} {A : Option Addr} {c : Nat} {l : List α} (h : Owns enc k base e w A c l) {g i : Nat} {u : Value} (hg : blockOf A ≠ some g) : Owns enc k base e (w.setCell ⟨g, i, none⟩ u) A c l := by
  obtain ⟨h1, h2⟩ := h
  refine ⟨h1, ?_⟩
  rcases h2 with h2 | ⟨g', cap, cur, hv, hb, hgc, r⟩
  · exact .inl h2
  · refine .inr ⟨g', cap, cur, hv, hb, ?_, r⟩
    have hne : g' ≠ g := by
      intro e
      apply hg
      injection hv with hv _ _
      subst hv
      subst e
      rfl
    show (w.heap.modify _ _)[g']? = _
    rw [Array.getElem?_modify, if_neg (show g ≠ g' from fun e => hne e.symm)]
    exact hgc
theorem Owns.belowed {α : Type} {enc : α → List Value} {k base n : Nat} {e : TypeId} {w w' : World} {A : Option Addr} {c : Nat} {l : List α} (h : Owns enc k base e w A c l) (hn : ∀ b, blockOf A = some b → b < n) (hB : Below n w w') : Owns enc k base e w' A c l := by
  obtain ⟨h1, h2⟩ := h
  refine ⟨h1, ?_⟩
  rcases h2 with h2 | ⟨g, cap, cur, hv, hb, hg, r⟩
  · exact .inl h2
  · refine .inr ⟨g, cap, cur, hv, hb, ?_, r⟩
    have hlt : g < n := by
      injection hv with hv _ _
      subst hv
      exact hn g rfl
    rw [hB.block g hlt]
    exact hg
theorem Owns.capJ {α : Type} {enc : α → List Value} {k base : Nat} {e : TypeId} {w : World} {A : Option Addr} {c : Nat} {l : List α} (h : Owns enc k base e w A c l) : l.length ≤ c := by
  obtain ⟨h1, h2⟩ := h
  rcases h2 with ⟨hv, h3⟩ | ⟨g, cap, cur, hv, hb, hg, hc, r⟩
  · omega
  · injection hv with _ _ hv
    omega
theorem Owns.resame {α : Type} {enc : α → List Value} {k base : Nat} {e : TypeId} {w : World} {A : Option Addr} {c : Nat} {l m : List α} (h : Owns enc k base e w A c l) (hm : m.map enc = l.map enc) : Owns enc k base e w A c m := by
  have hl : m.length = l.length := by have := congrArg List.length hm; simpa using this
  have hf : m.flatMap enc = l.flatMap enc := by rw [List.flatMap_def, List.flatMap_def, hm]
  unfold Owns at *
  rw [hl, hf]
  exact h
/-- A row of rows that the call made: all of them lie apart, in blocks of which P holds. -/
structure RowsAt (e1 e2 : TypeId) (base : Nat) (P : Nat → Prop) (W : World) (A : Option Addr) (c : Nat) (F : List RgR) : Prop where
  own : Owns encG 1 base e1 W A c F
  rows : ∀ j (h : j < F.length), Owns encV 2 base e2 W F[j].A F[j].c F[j].xs
  apart : ∀ i j (hi : i < F.length) (hj : j < F.length), i ≠ j → Apt F[i].A F[j].A
  tab : ∀ j (h : j < F.length), Apt F[j].A A
  blkA : ∀ b, blockOf A = some b → P b
  blk : ∀ j (h : j < F.length), ∀ b, blockOf F[j].A = some b → P b
section
variable {e1 e2 : TypeId} {base : Nat} {P : Nat → Prop} {W W' : World} {A : Option Addr} {c : Nat} {F : List RgR}
theorem Apt.row {α β : Type} {A B : Option Addr} (h : Apt A B) : blockOf A = none ∨ blockOf A ≠ blockOf B := by
  cases e : blockOf A with
  | none => exact .inl rfl
  | some b => exact .inr (fun q => h b e q.symm)
theorem RowsAt.mono {Q : Nat → Prop} (h : RowsAt e1 e2 base P W A c F) (hQ : ∀ b, base ≤ b → b < W.heap.size → P b → Q b) : RowsAt e1 e2 base Q W A c F :=
  ⟨h.own, h.rows, h.apart, h.tab, fun b hb => hQ b (h.own.below b hb).1 (h.own.below b hb).2 (h.blkA b hb), fun j hj b hb => hQ b ((h.rows j hj).below b hb).1 ((h.rows j hj).below b hb).2 (h.blk j hj b hb)⟩
theorem RowsAt.of (h : RowsAt e1 e2 base P W A c F) (hs : SinceOf W W') : RowsAt e1 e2 base P W' A c F :=
  ⟨h.own.of hs, fun j hj => (h.rows j hj).of hs, h.apart, h.tab, h.blkA, h.blk⟩
theorem RowsAt.kept {row : Option Nat} (h : RowsAt e1 e2 base P W A c F) (hg : W.grownBy W' row) (hr : ∀ b, row = some b → ¬ P b) : RowsAt e1 e2 base P W' A c F := by
  have one : ∀ B : Option Addr, (∀ b, blockOf B = some b → P b) → blockOf B = none ∨ blockOf B ≠ row := fun B hB => by
    cases e : blockOf B with
    | none => exact .inl rfl
    | some b => exact .inr (fun q => hr b q.symm (hB b e))
  exact ⟨h.own.kept hg (one _ h.blkA), fun j hj => (h.rows j hj).kept hg (one _ (h.blk j hj)), h.apart, h.tab, h.blkA, h.blk⟩
theorem RowsAt.belowed {n : Nat} (h : RowsAt e1 e2 base P W A c F) (hP : ∀ b, P b → b < n) (hB : Below n W W') : RowsAt e1 e2 base P W' A c F :=
  ⟨h.own.belowed (fun b hb => hP b (h.blkA b hb)) hB, fun j hj => (h.rows j hj).belowed (fun b hb => hP b (h.blk j hj b hb)) hB, h.apart, h.tab, h.blkA, h.blk⟩
theorem RowsAt.setNe (h : RowsAt e1 e2 base P W A c F) {g i : Nat} {u : Value} (hg : ¬ P g) : RowsAt e1 e2 base P (W.setCell ⟨g, i, none⟩ u) A c F :=
  ⟨h.own.setNeJ (fun e => hg (h.blkA g e)), fun j hj => (h.rows j hj).setNeJ (fun e => hg (h.blk j hj g e)), h.apart, h.tab, h.blkA, h.blk⟩
theorem RowsAt.zero (e2 : TypeId) {n : Nat} (h : Owns encG 1 base e1 W A c (List.replicate n ⟨none, 0, []⟩)) (hA : ∀ b, blockOf A = some b → P b) : RowsAt e1 e2 base P W A c (List.replicate n ⟨none, 0, []⟩) := by
  refine ⟨h, fun j hj => ?_, fun i j hi hj _ => ?_, fun j hj => ?_, hA, fun j hj b hb => ?_⟩
  · rw [List.getElem_replicate]; exact Owns.nil _ _ _ _ _
  · rw [List.getElem_replicate]; exact Apt.nil _
  · rw [List.getElem_replicate]; exact Apt.nil _
  · rw [List.getElem_replicate] at hb; cases hb
/-- One of the rows has grown (into A'), and the table says so. -/
theorem RowsAt.put {g : Nat} (h : RowsAt e1 e2 base P W (some ⟨g, 0, none⟩) c F) {i : Nat} (hi : i < F.length) {A' : Option Addr} {c' : Nat} {m : List Pt} (ho : Owns encV 2 base e2 W' A' c' m) (hgr : W.grownBy W' (blockOf F[i].A))
    (hb : blockOf A' = blockOf F[i].A ∨ blockOf A' = some W.heap.size) (hP : P W.heap.size) : RowsAt e1 e2 base P (W'.setCell ⟨g, i, none⟩ (.slice A' m.length c')) (some ⟨g, 0, none⟩) c (F.set i ⟨A', c', m⟩) := by
  have hg := h.own.below g rfl
  have hgi : blockOf F[i].A ≠ some g := fun e => h.tab i hi g e rfl
  have hA' : blockOf A' ≠ some g := by
    rcases hb with e | e
    · rw [e]; exact hgi
    · rw [e]; intro q; injection q with q; omega
  have hlt : ∀ j (hj : j < F.length) b, blockOf F[j].A = some b → b < W.heap.size := fun j hj b e => ((h.rows j hj).below b e).2
  have hAj : ∀ j (hj : j < F.length), j ≠ i → Apt F[j].A A' := fun j hj hne b e q => by
    rcases hb with r | r
    · rw [r] at q; exact h.apart j i hj hi hne b e q
    · rw [r] at q; injection q with q; have := hlt j hj b e; omega
  refine ⟨?_, fun j hj => ?_, fun a b ha hb' hab => ?_, fun j hj => ?_, h.blkA, fun j hj b e => ?_⟩
  · have k1 := h.own.kept hgr (.inr (fun e => hgi e.symm))
    have k2 := Owns.setAt encG_len (by omega) k1 i hi 0 (by omega) (.slice A' m.length c') ⟨A', c', m⟩ (by simp [encG])
    simpa using k2
  · have hj2 : j < F.length := by simpa using hj
    by_cases e : j = i
    · subst e
      rw [List.getElem_set_self]
      exact ho.setNeJ hA'
    · rw [List.getElem_set_ne (by omega)]
      exact ((h.rows j hj2).kept hgr (Apt.row (α := Unit) (β := Unit) (h.apart j i hj2 hi e))).setNeJ (fun q => h.tab j hj2 g q rfl)
  · have ha2 : a < F.length := by simpa using ha
    have hb2 : b < F.length := by simpa using hb'
    by_cases e1 : a = i
    · subst e1
      rw [List.getElem_set_self, List.getElem_set_ne (by omega)]
      exact (hAj b hb2 (by omega)).symm
    · rw [List.getElem_set_ne (by omega)]
      by_cases e2 : b = i
      · subst e2
        rw [List.getElem_set_self]
        exact hAj a ha2 e1
      · rw [List.getElem_set_ne (by omega)]
        exact h.apart a b ha2 hb2 hab
  · have hj2 : j < F.length := by simpa using hj
    by_cases e : j = i
    · subst e
      rw [List.getElem_set_self]
      intro b q q2
      injection q2 with q2
      exact hA' (q.trans (congrArg some q2.symm))
    · rw [List.getElem_set_ne (by omega)]
      exact h.tab j hj2
  · have hj2 : j < F.length := by simpa using hj
    by_cases q : j = i
    · subst q
      rw [List.getElem_set_self] at e
      rcases hb with r | r
      · rw [r] at e; exact h.blk j hj2 b e
      · rw [r] at e; injection e with e; rw [← e]; exact hP
    · rw [List.getElem_set_ne (by omega)] at e
      exact h.blk j hj2 b e
/-- One of the rows was sorted. -/
theorem RowsAt.sorted (h : RowsAt e1 e2 base P W A c F) {i : Nat} (hi : i < F.length) {M : List Pt} (ho : Owns encV 2 base e2 W' F[i].A F[i].c M) (hM : M.length = F[i].xs.length) (hgr : W.grownBy W' (blockOf F[i].A)) :
    RowsAt e1 e2 base P W' A c (F.set i ⟨F[i].A, F[i].c, M⟩) := by
  have at_ : ∀ j (hj : j < F.length), ((F.set i ⟨F[i].A, F[i].c, M⟩)[j]'(by rw [List.length_set]; exact hj)).A = F[j].A := fun j hj => by
    by_cases e : i = j
    · subst e; rw [List.getElem_set_self]
    · rw [List.getElem_set_ne e]
  have tabi : blockOf A = none ∨ blockOf A ≠ blockOf F[i].A := by
    cases e : blockOf A with
    | none => exact .inl rfl
    | some b => exact .inr (fun q => h.tab i hi b q.symm e)
  refine ⟨?_, fun j hj => ?_, fun a b ha hb hab => ?_, fun j hj => ?_, h.blkA, fun j hj b e => ?_⟩
  · refine (h.own.kept hgr tabi).resame ?_
    apply List.ext_getElem (by simp)
    intro j h1 h2
    simp only [List.getElem_map]
    simp only [List.length_map, List.length_set] at h1 h2
    by_cases e : i = j
    · subst e; rw [List.getElem_set_self]; unfold encG; rw [hM]
    · rw [List.getElem_set_ne e]
  · have hj2 : j < F.length := by simpa using hj
    by_cases e : i = j
    · subst e; rw [List.getElem_set_self]; exact ho
    · rw [List.getElem_set_ne e]
      exact (h.rows j hj2).kept hgr (Apt.row (α := Unit) (β := Unit) (h.apart j i hj2 hi (fun q => e q.symm)))
  · have ha2 : a < F.length := by simpa using ha
    have hb2 : b < F.length := by simpa using hb
    rw [at_ a ha2, at_ b hb2]
    exact h.apart a b ha2 hb2 hab
  · have hj2 : j < F.length := by simpa using hj
    rw [at_ j hj2]
    exact h.tab j hj2
  · have hj2 : j < F.length := by simpa using hj
    rw [at_ j hj2] at e
    exact h.blk j hj2 b e
/-- A row is added to the table. -/
theorem RowsAt.push (h : RowsAt e1 e2 base P W A c F) {x : RgR} (hx : Owns encV 2 base e2 W x.A x.c x.xs) (hxA : Apt x.A A) (hxF : ∀ j (hj : j < F.length), Apt x.A F[j].A) (hxP : ∀ b, blockOf x.A = some b → P b)
    {A' : Option Addr} {c' : Nat} (ho : Owns encG 1 base e1 W' A' c' (F ++ [x])) (hgr : W.grownBy W' (blockOf A)) (hb : blockOf A' = blockOf A ∨ blockOf A' = some W.heap.size) (hP : P W.heap.size) : RowsAt e1 e2 base P W' A' c' (F ++ [x]) := by
  have new : ∀ B : Option Addr, Apt B A → (∀ b, blockOf B = some b → b < W.heap.size) → Apt B A' := fun B hB hlt b e q => by
    rcases hb with r | r
    · rw [r] at q; exact hB b e q
    · rw [r] at q; injection q with q; have := hlt b e; omega
  have hlt : ∀ j (hj : j < F.length) b, blockOf F[j].A = some b → b < W.heap.size := fun j hj b e => ((h.rows j hj).below b e).2
  have cas : ∀ j (hj : j < (F ++ [x]).length), (∃ hj' : j < F.length, (F ++ [x])[j] = F[j]) ∨ (j = F.length ∧ (F ++ [x])[j] = x) := fun j hj => by
    by_cases e : j < F.length
    · exact .inl ⟨e, List.getElem_append_left e⟩
    · rw [List.length_append, List.length_singleton] at hj
      obtain rfl : j = F.length := by omega
      exact .inr ⟨rfl, by simp⟩
  refine ⟨ho, fun j hj => ?_, fun a b ha hb' hab => ?_, fun j hj => ?_, fun b e => ?_, fun j hj b e => ?_⟩
  · rcases cas j hj with ⟨hj', q⟩ | ⟨rfl, q⟩
    · rw [q]; exact (h.rows j hj').kept hgr (Apt.row (α := Unit) (β := Unit) (h.tab j hj'))
    · rw [q]; exact hx.kept hgr (Apt.row (α := Unit) (β := Unit) hxA)
  · rcases cas a ha with ⟨ha', q⟩ | ⟨rfl, q⟩
    · rw [q]
      rcases cas b hb' with ⟨hb2, q2⟩ | ⟨rfl, q2⟩
      · rw [q2]; exact h.apart a b ha' hb2 hab
      · rw [q2]; exact (hxF a ha').symm
    · rw [q]
      rcases cas b hb' with ⟨hb2, q2⟩ | ⟨rfl, q2⟩
      · rw [q2]; exact hxF b hb2
      · exact absurd rfl hab
  · rcases cas j hj with ⟨hj', q⟩ | ⟨rfl, q⟩
    · rw [q]; exact new _ (h.tab j hj') (hlt j hj')
    · rw [q]; exact new _ hxA (fun b e => (hx.below b e).2)
  · rcases hb with r | r
    · rw [r] at e; exact h.blkA b e
    · rw [r] at e; injection e with e; rw [← e]; exact hP
  · rcases cas j hj with ⟨hj', q⟩ | ⟨rfl, q⟩
    · rw [q] at e; exact h.blk j hj' b e
    · rw [q] at e; exact hxP b e
theorem RowsAt.rings (h : RowsAt e1 e2 base P W A c F) (hl : F.length < 4611686018427387904) (hr : ∀ j (hj : j < F.length), F[j].xs.length < 4611686018427387904) : IsRings W A c F :=
  ⟨h.own.isRow encG_len, fun x hx => by
    obtain ⟨j, hj, rfl⟩ := List.mem_iff_getElem.1 hx
    exact ⟨(h.rows j hj).isRow encV_len, hr j hj, (h.rows j hj).capJ⟩, hl⟩
end
/-- A variable that holds a slice. -/
structure VarS (W : World) (b : Nat) (v : Value) : Prop where
  c0 : W.cell? ⟨b, 0, none⟩ = some v
  f0 : W.frozen? ⟨b, 0, none⟩ = false
  lt : b < W.heap.size
theorem VarS.of {W W' : World} {b : Nat} {v : Value} (h : VarS W b v) (hs : SinceOf W W') : VarS W' b v := by
  obtain ⟨z, rfl⟩ := hs
  have : Nonempty (Old W b) := ⟨⟨h.lt⟩⟩
  exact ⟨by rw [Since.cell]; exact h.c0, by rw [Since.frozen]; exact h.f0, Nat.lt_of_lt_of_le h.lt z.size⟩
theorem VarS.kept {W W' : World} {b : Nat} {v : Value} {row : Option Nat} (h : VarS W b v) (hg : W.grownBy W' row) (hne : row ≠ some b) : VarS W' b v := by
  have q := hg.block b h.lt (fun e => hne e.symm)
  exact ⟨(World.cell?_of_block q).trans h.c0, (World.frozen?_of_block q).trans h.f0, Nat.lt_of_lt_of_le h.lt hg.size⟩
theorem VarS.setNe {W : World} {b g i : Nat} {v u : Value} (h : VarS W b v) (hne : b ≠ g) : VarS (W.setCell ⟨g, i, none⟩ u) b v :=
  ⟨by rw [World.cell?_setCell_other _ _ _ _ (by intro e; injection e with e1; exact hne e1.symm)]; exact h.c0, by simpa using h.f0, by simpa [World.setCell] using h.lt⟩
theorem VarS.set {W : World} {b : Nat} {v : Value} (h : VarS W b v) (u : Value) : VarS (W.setCell ⟨b, 0, none⟩ u) b u :=
  ⟨World.cell?_setCell_same _ _ _ h.c0, by simpa using h.f0, by simpa [World.setCell] using h.lt⟩
end Go.Proofs.YtkpnffokjpgalaaGreat
/- Layer 46: along of the program; which edge a gap lies along. -/
namespace Go.Proofs.YtkpnffokjpgalaaGreat
set_option linter.unusedVariables false
set_option linter.unusedSimpArgs false
open Go.RowKit Go.Sort
attribute [local go_sem ↓] Go.wp_at_zero Go.wp_at_succ

theorem onB_near {s : SegP} (hs : IsSegN s) {p : Pt} (h : onB s p = true) : near4 p := inX_near hs.2.1 hs.2.2 ((onB_step hs p).1 h).1
theorem place_small {s : SegP} {p : Pt} (hp : near4 p) (hs : IsSegN s) : small5 (placeK s.1 s.2 p) := by
  have h1 := hs.2.1
  unfold placeK
  unfold near4 at hp h1
  split
  · exact tdiv_small (by unfold small5; omega)
  · exact tdiv_small (by unfold small5; omega)
set_option maxRecDepth 100000 in
set_option maxHeartbeats 8000000 in
theorem along_any (s g : SegP) (hs : IsSegN s) (w : World) : Gives Tryz.prog 64 #[sgv s, sgv g] w (.bool (alongB s g)) := by
  apply Gives.ret
  have O1 := segOn_any s g.1
  have O2 := segOn_any s g.2
  have T := steps_any s
  unfold stepsI at T
  rw [if_pos (segN_ok hs)] at T
  have P1 : onB s g.1 = true → ∀ w, Gives Tryz.prog 65 #[sgv s, vv g.1.1 g.1.2] w (.int .i64 (placeK s.1 s.2 g.1)) := fun h => place_any s g.1 (segN_ok hs) hs.1 (onB_near hs h)
  have P2 : onB s g.2 = true → ∀ w, Gives Tryz.prog 65 #[sgv s, vv g.2.1 g.2.2] w (.int .i64 (placeK s.1 s.2 g.2)) := fun h => place_any s g.2 (segN_ok hs) hs.1 (onB_near hs h)
  unfold alongB gpK
  simp only
  generalize onB s g.1 = o1 at *
  generalize onB s g.2 = o2 at *
  generalize placeK s.1 s.2 g.1 = a at *
  generalize placeK s.1 s.2 g.2 = b at *
  generalize stepsK s.1 s.2 = S at *
  clear hs
  obtain ⟨⟨ax, ay⟩, bx, by'⟩ := s
  obtain ⟨⟨gx, gy⟩, hx, hy⟩ := g
  change ∀ w, Gives _ _ #[sg ax ay bx by', vv gx gy] w _ at O1
  change ∀ w, Gives _ _ #[sg ax ay bx by', vv hx hy] w _ at O2
  change _ → ∀ w, Gives _ _ #[sg ax ay bx by', vv gx gy] w _ at P1
  change _ → ∀ w, Gives _ _ #[sg ax ay bx by', vv hx hy] w _ at P2
  change ∀ w, Gives _ _ #[sg ax ay bx by'] w _ at T
  change Calls _ _ #[sg ax ay bx by', sg gx gy hx hy] _ _
  cases o1
  · clear P1 P2 O2 T
    go_enter Tryz.func64, Tryz.ntmps64
    go_wp2_with fail
    refine (O1 _).calls.mono ?_
    rintro e _ ⟨rfl, x1, rfl⟩
    go_wp2_with fail
    go_returns
    exact ⟨rfl, by (repeat (first | (with_reducible exact LaterOf.refl _) | (with_reducible refine LaterOf.alloc ?_ _) | (with_reducible refine LaterOf.drew ?_) | (with_reducible refine LaterOf.drewN ?_ _) | (with_reducible refine LaterOf.later ?_ _) | (with_reducible refine LaterOf.setCell ?_ (by first | exact Nat.le_refl _ | (simp; done) | omega | (simp; omega)) _)))⟩
  cases o2
  · clear P1 P2 T
    go_enter Tryz.func64, Tryz.ntmps64
    go_wp2_with fail
    refine (O1 _).calls.mono ?_
    rintro e _ ⟨rfl, x1, rfl⟩
    go_wp2_with fail
    refine (O2 _).calls.mono ?_
    rintro e _ ⟨rfl, x2, rfl⟩
    go_wp2_with fail
    go_returns
    exact ⟨rfl, by (repeat (first | (with_reducible exact LaterOf.refl _) | (with_reducible refine LaterOf.alloc ?_ _) | (with_reducible refine LaterOf.drew ?_) | (with_reducible refine LaterOf.drewN ?_ _) | (with_reducible refine LaterOf.later ?_ _) | (with_reducible refine LaterOf.setCell ?_ (by first | exact Nat.le_refl _ | (simp; done) | omega | (simp; omega)) _)))⟩
  replace P1 := P1 rfl
  replace P2 := P2 rfl
  obtain ⟨c1, hc1⟩ : ∃ c, c = decide (0 < a) := ⟨_, rfl⟩
  obtain ⟨c2, hc2⟩ : ∃ c, c = decide (a < b) := ⟨_, rfl⟩
  obtain ⟨c3, hc3⟩ : ∃ c, c = decide (b < S) := ⟨_, rfl⟩
  rw [← hc1, ← hc2, ← hc3]
  have d1 := hc1.symm
  have d2 := hc2.symm
  have d3 := hc3.symm
  clear hc1 hc2 hc3
  cases c1 <;> cases c2 <;>
  · go_enter Tryz.func64, Tryz.ntmps64
    go_wp2_with fail
    refine (O1 _).calls.mono ?_
    rintro e _ ⟨rfl, x1, rfl⟩
    go_wp2_with fail
    refine (O2 _).calls.mono ?_
    rintro e _ ⟨rfl, x2, rfl⟩
    go_wp2_with fail
    refine region_later (by kernel_rfl) (by kernel_rfl) ?_
    repeat (go_big_quiet_step ((first | (with_reducible refine Gives.later (P1 _)) | (with_reducible refine Gives.later (P2 _)))))
    refine wpQuiet_nil ?_
    rintro _ ⟨x3, rfl⟩
    go_wp2_with fail
    repeat (refine (T _).calls.mono ?_; rintro e _ ⟨rfl, x4, rfl⟩; go_wp2_with fail)
    go_returns
    exact ⟨by first | rfl | simp, by (repeat (first | (with_reducible exact LaterOf.refl _) | (with_reducible refine LaterOf.alloc ?_ _) | (with_reducible refine LaterOf.drew ?_) | (with_reducible refine LaterOf.drewN ?_ _) | (with_reducible refine LaterOf.later ?_ _) | (with_reducible refine LaterOf.setCell ?_ (by first | exact Nat.le_refl _ | (simp; done) | omega | (simp; omega)) _)))⟩
/-- A variable that holds a segment. -/
structure SegV (W : World) (b : Nat) (s : SegP) : Prop where
  c0 : W.cell? ⟨b, 0, none⟩ = some (.int .i64 s.1.1)
  c1 : W.cell? ⟨b, 1, none⟩ = some (.int .i64 s.1.2)
  c2 : W.cell? ⟨b, 2, none⟩ = some (.int .i64 s.2.1)
  c3 : W.cell? ⟨b, 3, none⟩ = some (.int .i64 s.2.2)
  lt : b < W.heap.size
theorem SegV.of {W W' : World} {b : Nat} {s : SegP} (h : SegV W b s) (hs : SinceOf W W') : SegV W' b s := by
  obtain ⟨z, rfl⟩ := hs
  have : Nonempty (Old W b) := ⟨⟨h.lt⟩⟩
  exact ⟨by rw [Since.cell]; exact h.c0, by rw [Since.cell]; exact h.c1, by rw [Since.cell]; exact h.c2, by rw [Since.cell]; exact h.c3, Nat.lt_of_lt_of_le h.lt z.size⟩
set_option maxRecDepth 100000 in
set_option maxHeartbeats 4000000 in
theorem split1_any (s g : SegP) (hs : IsSegN s) (b : Nat) (w : World) (h : SegV w b g) : Gives Tryz.prog 63 #[sgv s, .pointer (some ⟨b, 0, none⟩)] w (.bool (alongB s g)) := by
  apply Gives.ret
  have AL := along_any s g hs
  have ob : Nonempty (Old w b) := ⟨⟨h.lt⟩⟩
  obtain ⟨c0, c1, c2, c3, -⟩ := h
  generalize alongB s g = t at *
  obtain ⟨⟨ax, ay⟩, bx, by'⟩ := s
  obtain ⟨⟨gx, gy⟩, hx, hy⟩ := g
  simp only at c0 c1 c2 c3
  change ∀ w, Gives _ _ #[sg ax ay bx by', sg gx gy hx hy] w _ at AL
  change Calls _ _ #[sg ax ay bx by', _] _ _
  clear hs
  go_enter Tryz.func63, Tryz.ntmps63
  go_wp2_with fail
  refine (AL _).calls.mono ?_
  rintro e _ ⟨rfl, x1, rfl⟩
  go_wp2_with fail
  go_returns
  exact ⟨rfl, by (repeat (first | (with_reducible exact LaterOf.refl _) | (with_reducible refine LaterOf.alloc ?_ _) | (with_reducible refine LaterOf.drew ?_) | (with_reducible refine LaterOf.drewN ?_ _) | (with_reducible refine LaterOf.later ?_ _) | (with_reducible refine LaterOf.setCell ?_ (by first | exact Nat.le_refl _ | (simp; done) | omega | (simp; omega)) _)))⟩
/-- What IndexFunc answers. -/
def IdxE (w : World) (E : List SegP) (g : SegP) (e : Ending) (w' : World) : Prop := SinceOf w w' ∧ ∃ r : Int, e = .returned (.int .i64 r) ∧ ((r < 0 ∧ E.any (fun s => alongB s g) = false) ∨ ∃ i : Nat, r = i ∧ ∃ hi : i < E.length, alongB E[i] g = true)
set_option maxRecDepth 100000 in
set_option maxHeartbeats 8000000 in
theorem indexAlong_any (A : Option Addr) (c : Nat) (E : List SegP) (g : SegP) (b : Nat) (w : World) (h : IsSegs w A c E) (hN : ∀ s ∈ E, IsSegN s) (hg : SegV w b g) (hlen : E.length ≤ 100000) :
    Calls Tryz.prog 62 #[.slice A E.length c, .func (.func 63) #[] #[.pointer (some ⟨b, 0, none⟩)]] w (IdxE w E g) := by
  have H := Lib.hid (And.intro h (And.intro hN hg))
  clear h hN hg
  go_enter Tryz.func62, Tryz.ntmps62
  go_wp2_with fail
  go_loopg [8] E.length (fun gas s8 wr => ∃ k : Nat, k ≤ E.length ∧ E.length - k ≤ gas ∧ s8 = .int .i64 k ∧ SinceOf w wr ∧ E.any (fun s => alongB s g) = (E.drop k).any (fun s => alongB s g))
  case atStart => exact ⟨0, by omega, by omega, rfl, by (repeat (first | (with_reducible exact SinceOf.refl _) | (with_reducible assumption) | (with_reducible refine SinceOf.alloc ?_ _) | (with_reducible refine SinceOf.drew ?_) | (with_reducible refine SinceOf.drewN ?_ _) | (with_reducible refine SinceOf.later ?_ _) | (with_reducible refine SinceOf.further ?_ _) | (with_reducible refine SinceOf.setCell ?_ (by first | exact Nat.le_refl _ | (simp; done) | omega | (simp; omega)) _))), by rw [List.drop_zero]⟩
  case round =>
    obtain ⟨k, hk, hgas, rfl, ⟨z, rfl⟩, hany⟩ := hrel
    by_cases hlt : k < E.length
    · have hx0 := H.out.1.of (w' := z.wd) (by (repeat (first | (with_reducible exact SinceOf.refl _) | (with_reducible assumption) | (with_reducible refine SinceOf.alloc ?_ _) | (with_reducible refine SinceOf.drew ?_) | (with_reducible refine SinceOf.drewN ?_ _) | (with_reducible refine SinceOf.later ?_ _) | (with_reducible refine SinceOf.further ?_ _) | (with_reducible refine SinceOf.setCell ?_ (by first | exact Nat.le_refl _ | (simp; done) | omega | (simp; omega)) _))))
      obtain ⟨gg, off, rfl, hr⟩ := hx0.at_ (by omega)
      have hO1 := hr.there
      have a0 := hr.e0 k hlt
      have a1 := hr.e1 k hlt
      have a2 := hr.e2 k hlt
      have a3 := hr.e3 k hlt
      have hd : E.drop k = E[k] :: E.drop (k + 1) := List.drop_eq_getElem_cons hlt
      rw [hd, List.any_cons] at hany
      have C := fun W (hW : SinceOf z.wd W) => split1_any E[k] g (H.out.2.1 _ (List.getElem_mem hlt)) b W (H.out.2.2.of (SinceOf.trans (show SinceOf w z.wd by (repeat (first | (with_reducible exact SinceOf.refl _) | (with_reducible assumption) | (with_reducible refine SinceOf.alloc ?_ _) | (with_reducible refine SinceOf.drew ?_) | (with_reducible refine SinceOf.drewN ?_ _) | (with_reducible refine SinceOf.later ?_ _) | (with_reducible refine SinceOf.further ?_ _) | (with_reducible refine SinceOf.setCell ?_ (by first | exact Nat.le_refl _ | (simp; done) | omega | (simp; omega)) _)))) hW))
      obtain ⟨t, ht⟩ : ∃ t, t = alongB E[k] g := ⟨_, rfl⟩
      rw [← ht] at C hany
      have HT := Lib.hid (And.intro ht hany)
      change ∀ W, _ → Gives _ _ #[sg E[k].1.1 E[k].1.2 E[k].2.1 E[k].2.2, _] W _ at C
      generalize E[k].1.1 = xa at *
      generalize E[k].1.2 = xb at *
      generalize E[k].2.1 = xc at *
      generalize E[k].2.2 = xd at *
      clear hr hx0 hd ht hany
      cases t
      · go_wp2_with fail
        refine (C _ (by (repeat (first | (with_reducible exact SinceOf.refl _) | (with_reducible assumption) | (with_reducible refine SinceOf.alloc ?_ _) | (with_reducible refine SinceOf.drew ?_) | (with_reducible refine SinceOf.drewN ?_ _) | (with_reducible refine SinceOf.later ?_ _) | (with_reducible refine SinceOf.further ?_ _) | (with_reducible refine SinceOf.setCell ?_ (by first | exact Nat.le_refl _ | (simp; done) | omega | (simp; omega)) _))))).calls.mono ?_
        rintro e _ ⟨rfl, x1, rfl⟩
        go_wp2_with fail
        go_roundg (E.length - (k + 1))
        case measure => omega
        case rel => exact ⟨k + 1, hlt, Nat.le_refl _, by go_num, by (repeat (first | (with_reducible exact SinceOf.refl _) | (with_reducible assumption) | (with_reducible refine SinceOf.alloc ?_ _) | (with_reducible refine SinceOf.drew ?_) | (with_reducible refine SinceOf.drewN ?_ _) | (with_reducible refine SinceOf.later ?_ _) | (with_reducible refine SinceOf.further ?_ _) | (with_reducible refine SinceOf.setCell ?_ (by first | exact Nat.le_refl _ | (simp; done) | omega | (simp; omega)) _))), by rw [HT.out.2, Bool.false_or]⟩
      · go_wp2_with fail
        refine (C _ (by (repeat (first | (with_reducible exact SinceOf.refl _) | (with_reducible assumption) | (with_reducible refine SinceOf.alloc ?_ _) | (with_reducible refine SinceOf.drew ?_) | (with_reducible refine SinceOf.drewN ?_ _) | (with_reducible refine SinceOf.later ?_ _) | (with_reducible refine SinceOf.further ?_ _) | (with_reducible refine SinceOf.setCell ?_ (by first | exact Nat.le_refl _ | (simp; done) | omega | (simp; omega)) _))))).calls.mono ?_
        rintro e _ ⟨rfl, x1, rfl⟩
        go_wp2_with fail
        go_returns
        exact ⟨by (repeat (first | (with_reducible exact SinceOf.refl _) | (with_reducible assumption) | (with_reducible refine SinceOf.alloc ?_ _) | (with_reducible refine SinceOf.drew ?_) | (with_reducible refine SinceOf.drewN ?_ _) | (with_reducible refine SinceOf.later ?_ _) | (with_reducible refine SinceOf.further ?_ _) | (with_reducible refine SinceOf.setCell ?_ (by first | exact Nat.le_refl _ | (simp; done) | omega | (simp; omega)) _))), (k : Int), rfl, .inr ⟨k, rfl, hlt, HT.out.1.symm⟩⟩
    · obtain rfl : k = E.length := by omega
      rw [List.drop_length] at hany
      have HA := Lib.hid hany
      clear hany
      go_wp2_with fail
      go_returns
      exact ⟨by (repeat (first | (with_reducible exact SinceOf.refl _) | (with_reducible assumption) | (with_reducible refine SinceOf.alloc ?_ _) | (with_reducible refine SinceOf.drew ?_) | (with_reducible refine SinceOf.drewN ?_ _) | (with_reducible refine SinceOf.later ?_ _) | (with_reducible refine SinceOf.further ?_ _) | (with_reducible refine SinceOf.setCell ?_ (by first | exact Nat.le_refl _ | (simp; done) | omega | (simp; omega)) _))), -1, rfl, .inl ⟨by omega, by rw [HA.out]; rfl⟩⟩
set_option maxRecDepth 100000 in
theorem split3_any (a b c d : Int) (w : World) : Gives Tryz.prog 68 #[vv a b, vv c d] w (.int .i64 (cmpi a c)) := by
  apply Gives.ret
  go_enter Tryz.func68, Tryz.ntmps68
  go_wp2_with fail
  refine (cmpCompare_any _ _ _).mono ?_
  rintro e w' ⟨rfl, rfl⟩
  go_wp2_with fail
  go_returns
  exact ⟨rfl, by (repeat (first | (with_reducible exact LaterOf.refl _) | (with_reducible refine LaterOf.alloc ?_ _) | (with_reducible refine LaterOf.drew ?_) | (with_reducible refine LaterOf.drewN ?_ _) | (with_reducible refine LaterOf.later ?_ _) | (with_reducible refine LaterOf.setCell ?_ (by first | exact Nat.le_refl _ | (simp; done) | omega | (simp; omega)) _)))⟩
theorem split3_cmps : Cmps0 68 := ⟨split3_any, Go.Proofs.enters_of Tryz.func68 (by kernel_rfl) rfl⟩
end Go.Proofs.YtkpnffokjpgalaaGreat
/- Layer 46: a point is added to the last path. -/
namespace Go.Proofs.YtkpnffokjpgalaaGreat
set_option linter.unusedVariables false
set_option linter.unusedSimpArgs false
open Go.RowKit Go.Sort
attribute [local go_sem ↓] Go.wp_at_zero Go.wp_at_succ

theorem infoVecJ : (Tryz.prog.info? 25).map (fun i => (i.zero, i.size, i.bytes)) = some (some (.agg #[.int .i64 0, .int .i64 0]), 2, 16) := by kernel_rfl
theorem infoRowJ : (Tryz.prog.info? 22).map (fun i => (i.zero, i.size, i.bytes)) = some (some (.slice none 0 0), 1, 24) := by kernel_rfl
/-- Paths: a table of rows of points; none of them lies in block b0. -/
abbrev PathsAt (base b0 : Nat) (W : World) (A : Option Addr) (c : Nat) (F : List RgR) : Prop := RowsAt 22 25 base (fun b => b ≠ b0) W A c F
theorem RowsAt.keptLow {e1 e2 : TypeId} {base : Nat} {P : Nat → Prop} {W W' : World} {A : Option Addr} {c : Nat} {F : List RgR} {row : Option Nat} (h : RowsAt e1 e2 base P W A c F) (hg : W.grownBy W' row) (hr : ∀ b, row = some b → b < base) : RowsAt e1 e2 base P W' A c F := by
  have one : ∀ B : Option Addr, (∀ b, blockOf B = some b → base ≤ b) → blockOf B = none ∨ blockOf B ≠ row := fun B hB => by
    cases e : blockOf B with
    | none => exact .inl rfl
    | some b => exact .inr (fun q => by have := hr b q.symm; have := hB b e; omega)
  exact ⟨h.own.kept hg (one _ fun b hb => (h.own.below b hb).1), fun j hj => (h.rows j hj).kept hg (one _ fun b hb => ((h.rows j hj).below b hb).1), h.apart, h.tab, h.blkA, h.blk⟩
set_option maxRecDepth 100000 in
set_option maxHeartbeats 16000000 in
theorem add_any (base b0 g c : Nat) (Y : List RgR) (x : RgR) (px py : Int) (w : World) (hv : VarS w b0 (.slice (some ⟨g, 0, none⟩) (Y.length + 1) c)) (h : PathsAt base b0 w (some ⟨g, 0, none⟩) c (Y ++ [x])) (hbase : base ≤ w.heap.size) (hl : x.xs.length ≤ 100000) (hY : Y.length ≤ 100000) :
    Calls Tryz.prog 66 #[vv px py, .pointer (some ⟨b0, 0, none⟩)] w fun e w' => e = .returned (.tuple #[]) ∧ ∃ A' c', PathsAt base b0 w' (some ⟨g, 0, none⟩) c (Y ++ [⟨A', c', x.xs ++ [(px, py)]⟩]) ∧ VarS w' b0 (.slice (some ⟨g, 0, none⟩) (Y.length + 1) c) ∧ Below base w w' ∧ w.heap.size ≤ w'.heap.size ∧ ∀ b, b < w.heap.size → b ≠ g → blockOf x.A ≠ some b → w'.heap[b]? = w.heap[b]? := by
  obtain ⟨i0, hi, hz0, hz1, hz2⟩ := info_parts infoVecJ
  have HI := Lib.hid (And.intro hi (And.intro hz0 (And.intro hz1 hz2)))
  clear hi hz0 hz1 hz2
  have hlast : (Y ++ [x])[Y.length]'(by simp) = x := by simp
  have hx : Owns encV 2 base 25 w x.A x.c x.xs := by have := h.rows Y.length (by simp); rw [hlast] at this; exact this
  have hgb := h.own.below g rfl
  have hgne : g ≠ b0 := h.blkA g rfl
  have hxne : ∀ b, blockOf x.A = some b → b ≠ b0 := by have := h.blk Y.length (by simp); rw [hlast] at this; exact this
  have hxg : blockOf x.A ≠ some g := fun e => by have := h.tab Y.length (by simp); rw [hlast] at this; exact this g e rfl
  obtain ⟨gg, oo, egg, hr⟩ := (h.own.isRow encG_len).at_ (by simp)
  injection egg with egg
  injection egg with e1 e2 e3
  subst e1 e2
  have k0 := hr.g0 Y.length (by simp)
  rw [hlast, Nat.zero_add] at k0
  obtain ⟨n, hn⟩ : ∃ n, n = Y.length := ⟨_, rfl⟩
  rw [← hn] at k0 hv hY ⊢
  have v0 := hv.c0
  have og : Nonempty (Old w g) := ⟨⟨hgb.2⟩⟩
  have ob : Nonempty (Old w b0) := ⟨⟨hv.lt⟩⟩
  have hlt := hv.lt
  have fg : w.frozen? ⟨g, n, none⟩ = false := h.own.free0 n
  have H := Lib.hid (And.intro h (And.intro hx (And.intro hv (And.intro hxne (And.intro hxg hn)))))
  obtain ⟨xA, xc, xs⟩ := x
  simp only at k0 hl
  have e5 : IntKind.i64.wrap ((n : Int) + 1 - 1) = (n : Int) := by rw [IntWalk.i64_in _ (by omega)]; omega
  have e6 : IntKind.i64.wrap (n : Int) = (n : Int) := IntWalk.i64_in _ (by omega)
  have b1 : (0 : Int) ≤ n := by omega
  have b2 : (n : Int) < (n : Int) + 1 := by omega
  clear h hx hv hxne hxg hr hlast hn
  go_enter Tryz.func66, Tryz.ntmps66
  go_wp2_with fail
  refine regionL [14] (S := (fun w' => w'.cell? ⟨b0, 0, none⟩ = some (.slice (some ⟨g, 0, none⟩) (n + 1) c) ∧ w'.cell? ⟨g, n, none⟩ = some (.slice xA xs.length xc) ∧ w'.cell? ⟨w.heap.size, 0, none⟩ = some (.int .i64 px) ∧ w'.cell? ⟨w.heap.size, 1, none⟩ = some (.int .i64 py))) (by kernel_rfl) ?_ (fun hHeld0 => ?_)
  · simp [go_sem, *]
  refine takeL (i := 0) (d := some 3) (v := ?_) rfl rfl (by kernel_rfl) (by kernel_rfl) (by kernel_rfl) (by kernel_rfl) (by kernel_rfl) (fun _ _ _ h => h) (Or.inl ⟨by rfl, ?_⟩) (by assumption) ?_
  rotate_left 1
  · (intro w hSw; (try dsimp only at hSw); go_simp) <;> (with_reducible rfl)
  (try simp only [Act.put, List.setIfInBounds_toArray, List.set_cons_zero, List.set_cons_succ])
  refine takeL (i := 1) (d := some 4) (v := ?_) rfl rfl (by kernel_rfl) (by kernel_rfl) (by kernel_rfl) (by kernel_rfl) (by kernel_rfl) (fun _ _ _ h => h) (Or.inl ⟨by rfl, ?_⟩) (by assumption) ?_
  rotate_left 1
  · (intro w hSw; (try dsimp only at hSw); go_simp) <;> (with_reducible rfl)
  (try simp only [Act.put, List.setIfInBounds_toArray, List.set_cons_zero, List.set_cons_succ])
  refine takeL (i := 2) (d := some 5) (v := ?_) rfl rfl (by kernel_rfl) (by kernel_rfl) (by kernel_rfl) (by kernel_rfl) (by kernel_rfl) (fun _ _ _ h => h) (Or.inl ⟨by rfl, ?_⟩) (by assumption) ?_
  rotate_left 1
  · (intro w hSw; (try dsimp only at hSw); go_simp) <;> (with_reducible rfl)
  (try simp only [Act.put, List.setIfInBounds_toArray, List.set_cons_zero, List.set_cons_succ])
  refine takeL (i := 3) (d := some 6) (v := ?_) rfl rfl (by kernel_rfl) (by kernel_rfl) (by kernel_rfl) (by kernel_rfl) (by kernel_rfl) (fun _ _ _ h => h) (Or.inl ⟨by rfl, ?_⟩) (by assumption) ?_
  rotate_left 1
  · (intro w hSw; (try dsimp only at hSw); go_simp) <;> (with_reducible rfl)
  (try simp only [Act.put, List.setIfInBounds_toArray, List.set_cons_zero, List.set_cons_succ])
  refine takeL (i := 4) (d := some 7) (v := ?_) rfl rfl (by kernel_rfl) (by kernel_rfl) (by kernel_rfl) (by kernel_rfl) (by kernel_rfl) (fun _ _ _ h => h) (Or.inl ⟨by rfl, ?_⟩) (by assumption) ?_
  rotate_left 1
  · (intro w hSw; (try dsimp only at hSw); go_simp) <;> (with_reducible rfl)
  (try simp only [Act.put, List.setIfInBounds_toArray, List.set_cons_zero, List.set_cons_succ])
  refine takeL (i := 5) (d := some 8) (v := ?_) rfl rfl (by kernel_rfl) (by kernel_rfl) (by kernel_rfl) (by kernel_rfl) (by kernel_rfl) (fun _ _ _ h => h) (Or.inl ⟨by rfl, ?_⟩) (by assumption) ?_
  rotate_left 1
  · (intro w hSw; (try dsimp only at hSw); go_simp) <;> (with_reducible rfl)
  (try simp only [Act.put, List.setIfInBounds_toArray, List.set_cons_zero, List.set_cons_succ])
  refine takeL (i := 6) (d := some 9) (v := ?_) rfl rfl (by kernel_rfl) (by kernel_rfl) (by kernel_rfl) (by kernel_rfl) (by kernel_rfl) (fun _ _ _ h => h) (Or.inl ⟨by rfl, ?_⟩) (by assumption) ?_
  rotate_left 1
  · (intro w hSw; (try dsimp only at hSw); go_simp) <;> (with_reducible rfl)
  (try simp only [Act.put, List.setIfInBounds_toArray, List.set_cons_zero, List.set_cons_succ])
  refine takeL (i := 7) (d := some 10) (v := ?_) rfl rfl (by kernel_rfl) (by kernel_rfl) (by kernel_rfl) (by kernel_rfl) (by kernel_rfl) (fun _ _ _ h => h) (Or.inl ⟨by rfl, ?_⟩) (by assumption) ?_
  rotate_left 1
  · (intro w hSw; (try dsimp only at hSw); go_simp) <;> (with_reducible rfl)
  (try simp only [Act.put, List.setIfInBounds_toArray, List.set_cons_zero, List.set_cons_succ])
  refine takeL (i := 8) (d := some 11) (v := ?_) rfl rfl (by kernel_rfl) (by kernel_rfl) (by kernel_rfl) (by kernel_rfl) (by kernel_rfl) (fun _ _ _ h => h) (Or.inl ⟨by rfl, ?_⟩) (by assumption) ?_
  rotate_left 1
  · (intro w hSw; (try dsimp only at hSw); go_simp) <;> (with_reducible rfl)
  (try simp only [Act.put, List.setIfInBounds_toArray, List.set_cons_zero, List.set_cons_succ])
  refine takeL (i := 9) (d := some 12) (v := ?_) rfl rfl (by kernel_rfl) (by kernel_rfl) (by kernel_rfl) (by kernel_rfl) (by kernel_rfl) (fun _ _ _ h => h) (Or.inl ⟨by rfl, ?_⟩) (by assumption) ?_
  rotate_left 1
  · (intro w hSw; (try dsimp only at hSw); go_simp) <;> (with_reducible rfl)
  (try simp only [Act.put, List.setIfInBounds_toArray, List.set_cons_zero, List.set_cons_succ])
  refine takeL (i := 10) (d := some 13) (v := ?_) rfl rfl (by kernel_rfl) (by kernel_rfl) (by kernel_rfl) (by kernel_rfl) (by kernel_rfl) (fun _ _ _ h => h) (Or.inl ⟨by rfl, ?_⟩) (by assumption) ?_
  rotate_left 1
  · (intro w hSw; (try dsimp only at hSw); go_simp) <;> (with_reducible rfl)
  (try simp only [Act.put, List.setIfInBounds_toArray, List.set_cons_zero, List.set_cons_succ])
  refine stepL (i := 11) (by kernel_rfl) rfl (fun K' hK => ?_)
  go_simp
  refine hK.out _ _ ?_ (fun hHeld1 => ?_)
  · simp [go_sem, *]
  clear hK K' hHeld0
  refine stepL (i := 12) (by kernel_rfl) rfl (fun K' hK => ?_)
  obtain ⟨W1, hW1⟩ : ∃ W1, W1 = ((w.alloc (.cells #[.int .i64 px, .int .i64 py] 25)).alloc (.cells #[.int .i64 px, .int .i64 py] 25)).drew := ⟨_, rfl⟩
  rw [← hW1]
  have hS1 : SinceOf w W1 := by rw [hW1]; (repeat (first | (with_reducible exact SinceOf.refl _) | (with_reducible assumption) | (with_reducible refine SinceOf.alloc ?_ _) | (with_reducible refine SinceOf.drew ?_) | (with_reducible refine SinceOf.drewN ?_ _) | (with_reducible refine SinceOf.later ?_ _) | (with_reducible refine SinceOf.further ?_ _) | (with_reducible refine SinceOf.setCell ?_ (by first | exact Nat.le_refl _ | (simp; done) | omega | (simp; omega)) _)))
  have hz1 : W1.heap.size = w.heap.size + 1 + 1 := by rw [hW1]; simp
  have hm1 : IsVecs W1 (some ⟨w.heap.size + 1, 0, none⟩) 1 [(px, py)] := by rw [hW1]; exact (isRow_atV (w.alloc (.cells #[.int .i64 px, .int .i64 py] 25)) (w.heap.size + 1) px py (by simp)).of ((SinceOf.refl _).drew)
  refine step_append_row (w := W1) (by rfl) (.tmp 12) (.tmp 14) 22 (by rfl) encV_len (by omega) encV_one i0 _ 16 Tryz.underlying22 HI.out.1 HI.out.2.1 HI.out.2.2.1 HI.out.2.2.2 rfl (l := xs) (A := xA) (c := xc) (base := base) rfl (H.out.2.1.of hS1) (m := [(px, py)]) (by rfl) hm1 (by unfold maxLen; simp; omega) (by simp; omega) (by omega) ?_
  intro A3 c3 w4 ho hgr4 hb4
  have hput := RowsAt.put (H.out.1.of hS1) (i := n) (by simp [H.out.2.2.2.2.2]) (A' := A3) (c' := c3) (m := xs ++ [(px, py)]) (W' := w4) ho (by simpa [H.out.2.2.2.2.2] using hgr4) (by simpa [H.out.2.2.2.2.2] using hb4) (by show W1.heap.size ≠ b0; omega)
  have hset : (Y ++ [(⟨xA, xc, xs⟩ : RgR)]).set n ⟨A3, c3, xs ++ [(px, py)]⟩ = Y ++ [⟨A3, c3, xs ++ [(px, py)]⟩] := by simp [H.out.2.2.2.2.2]
  rw [hset] at hput
  have hv4 := (H.out.2.2.1.of hS1).kept hgr4 (fun e => H.out.2.2.2.1 _ e rfl)
  have hxg1 : blockOf xA ≠ some g := H.out.2.2.2.2.1
  have k4 : w4.cell? ⟨g, n, none⟩ = some (.slice xA xs.length xc) := by
    have : W1.cell? ⟨g, n, none⟩ = some (.slice xA xs.length xc) := by obtain ⟨z, hz⟩ := hS1; rw [hz]; simp [go_sem, k0]
    exact hgr4.cell this (fun e => hxg1 (e.symm))
  have q4 : w4.cell? ⟨w.heap.size, 0, none⟩ = some (.int .i64 px) ∧ w4.cell? ⟨w.heap.size, 1, none⟩ = some (.int .i64 py) := by
    have hne : some w.heap.size ≠ blockOf xA := fun e => by have := (H.out.2.1.below _ e.symm).2; omega
    exact ⟨hgr4.cell (by rw [hW1]; simp [go_sem]) hne, hgr4.cell (by rw [hW1]; simp [go_sem]) hne⟩
  have f4 : w4.frozen? ⟨g, n, none⟩ = false := by
    have h1 := (H.out.1.of hS1).own.kept hgr4 (.inr (fun e => hxg1 e.symm))
    exact h1.free0 n
  have hB : Below base w w4 := (hS1.below.mono hbase).grown hgr4 (by omega) (fun k hk => (H.out.2.1.below k hk).1)
  have hz4 := hgr4.size
  have hoth : ∀ b, b < w.heap.size → blockOf xA ≠ some b → w4.heap[b]? = w.heap[b]? := fun b h1 h2 => (hgr4.block b (by omega) (fun e => h2 e.symm)).trans (hS1.below.block b h1)
  have o4 : Nonempty (Old w4 g) := ⟨⟨by omega⟩⟩
  have HP := Lib.hid (And.intro hput (And.intro hv4 (And.intro hB hoth)))
  refine hK.out _ _ ⟨hv4.c0, k4, q4.1, q4.2⟩ (fun hHeld3 => ?_)
  clear hK K' hHeld1 hput hv4 hB hset ho hgr4 hb4 hm1 hW1 hoth
  refine takeL (i := 13) (d := some 16) (v := ?_) rfl rfl (by kernel_rfl) (by kernel_rfl) (by kernel_rfl) (by kernel_rfl) (by kernel_rfl) (fun _ _ _ h => h) (Or.inl ⟨by rfl, ?_⟩) (by assumption) ?_
  rotate_left 1
  · (intro w hSw; (try dsimp only at hSw); go_simp) <;> (with_reducible rfl)
  (try simp only [Act.put, List.setIfInBounds_toArray, List.set_cons_zero, List.set_cons_succ])
  refine lastL (i := 14) (by kernel_rfl) (by rfl) rfl (fun K' hK => ?_)
  go_simp
  refine hK.out _ _ ?_
  refine doneL (by kernel_rfl) ?_ _
  go_wp2_with fail
  go_returns
  refine ⟨rfl, A3, c3, ?_, ?_, ?_, ?_, fun b h1 h2 h3 => ?_⟩
  · have := HP.out.1
    rw [List.length_append, List.length_singleton] at this
    exact this
  · exact HP.out.2.1.setNe (fun e => hgne e.symm)
  · exact HP.out.2.2.1.setCell hgb.1 _
  · simp [World.setCell]; omega
  · rw [Below.heap_setCell _ _ _ _ (by exact h2)]
    exact HP.out.2.2.2 b h1 h3
end Go.Proofs.YtkpnffokjpgalaaGreat
