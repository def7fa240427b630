/- Layer 18 (plain): two convex rings with a line between them have a separating edge. -/
import Derived.Test.YticmfmcflikneaaHull25
namespace Go.Proofs.Yticmfmcflikneaa
open Go.RowKit Go.Sort
set_option linter.unusedVariables false

theorem bound_exists : ∀ (l : List Pt), ∃ M : Int, ∀ q ∈ l, -M ≤ q.2 ∧ q.2 ≤ M
  | [] => ⟨0, by simp⟩
  | p :: l => by
    obtain ⟨M, hM⟩ := bound_exists l
    refine ⟨max M (max p.2 (-p.2)), fun q hq => ?_⟩
    rcases List.mem_cons.1 hq with rfl | hq
    · omega
    · have := hM q hq
      omega
theorem hull_ex {l : List Pt} (hn : ¬ Flat l) : ∃ h, IsHull l h := by
  obtain ⟨M, hM⟩ := bound_exists l
  obtain ⟨hs, hm⟩ := xpts_strict l
  have h2 : 2 ≤ (xpts l).length := by
    rcases Nat.lt_or_ge (xpts l).length 2 with h | h
    · exfalso
      apply hn
      intro u hu v hv w hw
      have one : ∀ p ∈ l, ∀ q ∈ l, p = q := fun p hp q hq => by
        have hp' := (hm p).2 hp
        have hq' := (hm q).2 hq
        match xpts l, h, hp', hq' with
        | [], _, hp', _ => cases hp'
        | [x], _, hp', hq' => simp at hp' hq'; rw [hp', hq']
        | x :: y :: r, h2, _, _ => simp only [List.length_cons] at h2; omega
      rw [one u hu w hw, one v hv w hw]
      exact det_end w w
    · exact h
  obtain ⟨a, b, c⟩ := hull_or_line (M := M) (pts := xpts l) (fun q hq => hM q ((hm q).1 hq)) hs h2
  rcases c with ⟨-, c, -⟩ | ⟨-, c⟩
  · exact ⟨_, c.more (fun q hq => (hm q).2 hq) (fun v hv => (hm v).1 (c.sub v hv))⟩
  · exact absurd (fun u hu v hv w hw => c u ((hm u).2 hu) v ((hm v).2 hv) w ((hm w).2 hw)) hn
theorem mem_at {r : List Pt} {q : Pt} (hq : q ∈ r) : ∃ k, k < r.length ∧ at0 r k = q := by
  obtain ⟨k, hk, rfl⟩ := List.getElem_of_mem hq
  exact ⟨k, hk, at0_eq hk⟩
theorem ConvexI.left {r : List Pt} (h : ConvexI r) : ∀ i, i < r.length → ∀ q ∈ r, 0 ≤ det (at0 r i) (rv r (i + 1)) q := fun i hi q hq => by
  obtain ⟨k, hk, rfl⟩ := mem_at hq
  by_cases h1 : k = i
  · rw [h1, det_self]; exact Int.le_refl _
  · by_cases h2 : k = (i + 1) % r.length
    · rw [h2, show at0 r ((i + 1) % r.length) = rv r (i + 1) from rfl, det_end]; exact Int.le_refl _
    · have := h i hi k hk h1 h2
      omega
theorem ConvexI.self {r : List Pt} (h : ConvexI r) (h3 : 3 ≤ r.length) : IsHull r r := ⟨h3, fun i k hi hk h1 h2 => h i hi k hk h1 h2, h.left, fun q hq => hq⟩
theorem flat3 {K L : Int} (hKL : K ≠ 0 ∨ L ≠ 0) {a b c : Pt} (h1 : lin K L b = lin K L a) (h2 : lin K L c = lin K L a) : det a b c = 0 := by
  have e1 : K * det a b c = (lin K L b - lin K L a) * (c.2 - a.2) - (lin K L c - lin K L a) * (b.2 - a.2) := by unfold det lin; grind
  have e2 : L * det a b c = (lin K L c - lin K L a) * (b.1 - a.1) - (lin K L b - lin K L a) * (c.1 - a.1) := by unfold det lin; grind
  rw [h1, h2, Int.sub_self, Int.zero_mul, Int.zero_mul] at e1 e2
  rcases hKL with h | h
  · rcases Int.mul_eq_zero.1 e1 with q | q
    · exact absurd q h
    · exact q
  · rcases Int.mul_eq_zero.1 e2 with q | q
    · exact absurd q h
    · exact q
theorem inside_less {D h : List Pt} (H : IsHull D h) {K L : Int} (hKL : K ≠ 0 ∨ L ≠ 0) {o : Pt} (ho : ∀ i, i < h.length → 0 < det (at0 h i) (rv h (i + 1)) o) : ∃ v ∈ h, lin K L v < lin K L o := by
  have h3 := H.three
  obtain ⟨i, hi, hm⟩ := exists_least (lin K L) (r := h) (by intro e; rw [e] at h3; simp at h3)
  obtain ⟨j, hj, e, hc, hl, -⟩ := H.corner hi
  have hjo := ho j hj
  rw [e] at hjo
  have hio := ho i hi
  have ha := hm _ (at0_mem hj)
  have hb : lin K L (at0 h i) ≤ lin K L (rv h (i + 1)) := hm _ (at0_mem (Nat.mod_lt _ (by omega)))
  refine ⟨_, at0_mem hi, ?_⟩
  generalize at0 h j = a at *
  generalize at0 h i = v at *
  generalize rv h (i + 1) = b at *
  rcases Int.lt_or_le (lin K L v) (lin K L o) with q | q
  · exact q
  · exfalso
    have E : det a v b * (lin K L o - lin K L v) = det a v o * (lin K L b - lin K L v) + det v b o * (lin K L a - lin K L v) := by unfold det lin; grind
    have m0 : det a v b * (lin K L o - lin K L v) ≤ 0 := Int.mul_nonpos_of_nonneg_of_nonpos (Int.le_of_lt hc) (by omega)
    have m1 : 0 ≤ det a v o * (lin K L b - lin K L v) := Int.mul_nonneg (Int.le_of_lt hjo) (by omega)
    have m2 : 0 ≤ det v b o * (lin K L a - lin K L v) := Int.mul_nonneg (Int.le_of_lt hio) (by omega)
    have z1 : det a v o * (lin K L b - lin K L v) = 0 := by omega
    have z2 : det v b o * (lin K L a - lin K L v) = 0 := by omega
    have y1 := zero_of_mul hjo z1
    have y2 := zero_of_mul hio z2
    have := flat3 hKL (a := a) (b := v) (c := b) (by omega) (by omega)
    omega
/-- A linear form that is not 0 parts the points of two lists. -/
def PartBy (K L : Int) (r s : List Pt) : Prop := (K ≠ 0 ∨ L ≠ 0) ∧ ∀ p ∈ r, ∀ q ∈ s, lin K L p ≤ lin K L q
def Parted (r s : List Pt) : Prop := ∃ K L, PartBy K L r s
theorem PartBy.symm {K L : Int} {r s : List Pt} (h : PartBy K L r s) : PartBy (-K) (-L) s r :=
  ⟨by have := h.1; omega, fun p hp q hq => by have := h.2 q hq p hp; rw [lin_neg, lin_neg]; omega⟩
theorem Parted.symm {r s : List Pt} (h : Parted r s) : Parted s r := by
  obtain ⟨K, L, h⟩ := h
  exact ⟨_, _, h.symm⟩
def SepD (r s : List Pt) : Prop := ∃ i, i < r.length ∧ ∀ q ∈ s, det (at0 r i) (rv r (i + 1)) q ≤ 0
theorem det_form (a b : Pt) : ∃ c : Int, ∀ q, det a b q = lin (-(b.2 - a.2)) (b.1 - a.1) q + c :=
  ⟨-(b.1 - a.1) * a.2 + (b.2 - a.2) * a.1, fun q => by unfold det lin; grind⟩
theorem form_ne {a b : Pt} (h : a ≠ b) : -(b.2 - a.2) ≠ 0 ∨ b.1 - a.1 ≠ 0 := by
  rcases Classical.em (b.1 - a.1 = 0) with h1 | h1
  · left
    intro h2
    exact h (Prod.ext (by omega) (by omega))
  · exact .inr h1
theorem SepD.parted {r s : List Pt} (hr : ConvexI r) (h3 : 3 ≤ r.length) (h : SepD r s) : Parted r s := by
  obtain ⟨i, hi, hq⟩ := h
  obtain ⟨c, e⟩ := det_form (at0 r i) (rv r (i + 1))
  have hp := hr.left i hi
  refine Parted.symm ⟨_, _, form_ne ((hr.self h3).next_ne hi), fun q hqs p hpr => ?_⟩
  have h1 := hq q hqs
  have h2 := hp p hpr
  rw [e] at h1 h2
  omega
theorem edge_min {r : List Pt} (h : ConvexI r) {K L : Int} (hKL : K ≠ 0 ∨ L ≠ 0) {i k : Nat} (hi : i < r.length) (hk : k < r.length) (hik : i ≠ k) (e : lin K L (at0 r k) = lin K L (at0 r i)) (hm : ∀ p ∈ r, lin K L (at0 r i) ≤ lin K L p) :
    ∃ j, j < r.length ∧ lin K L (at0 r j) = lin K L (at0 r i) ∧ lin K L (rv r (j + 1)) = lin K L (at0 r i) := by
  by_cases h1 : k = (i + 1) % r.length
  · exact ⟨i, hi, rfl, by unfold rv; rw [← h1]; exact e⟩
  · by_cases h2 : i = (k + 1) % r.length
    · exact ⟨k, hk, e, by unfold rv; rw [← h2]⟩
    · exfalso
      have d1 := h i hi k hk (Ne.symm hik) h1
      have d2 := h k hk i hi hik h2
      have m1 : lin K L (at0 r i) ≤ lin K L (rv r (i + 1)) := hm _ (at0_mem (Nat.mod_lt _ (by omega)))
      have m2 : lin K L (at0 r i) ≤ lin K L (rv r (k + 1)) := hm _ (at0_mem (Nat.mod_lt _ (by omega)))
      generalize at0 r i = a at *
      generalize at0 r k = c at *
      generalize rv r (i + 1) = b at *
      generalize rv r (k + 1) = x at *
      have E := det_lin K L a b c x
      have d2' : 0 < det a c x := by rw [det_cycle]; exact d2
      rw [e, Int.sub_self, Int.zero_mul] at E
      have n1 : 0 ≤ (lin K L b - lin K L a) * det a c x := Int.mul_nonneg (by omega) (by omega)
      have n2 : 0 ≤ (lin K L x - lin K L a) * det a b c := Int.mul_nonneg (by omega) (by omega)
      have z1 : (lin K L b - lin K L a) * det a c x = 0 := by omega
      rw [Int.mul_comm] at z1
      have := zero_of_mul d2' z1
      have := flat3 hKL (a := a) (b := b) (c := c) (by omega) e
      omega
theorem edge_sep {r s : List Pt} (h : ConvexI r) (h3 : 3 ≤ r.length) {K L : Int} (hKL : K ≠ 0 ∨ L ≠ 0) {u v : Pt} (hu : u ∈ r) (hv : v ∈ r) (huv : u ≠ v) (e : lin K L v = lin K L u) (hm : ∀ p ∈ r, lin K L u ≤ lin K L p) (hs : ∀ q ∈ s, lin K L q ≤ lin K L u) : SepD r s := by
  obtain ⟨i, hi, rfl⟩ := mem_at hu
  obtain ⟨k, hk, rfl⟩ := mem_at hv
  obtain ⟨j, hj, e1, e2⟩ := edge_min h hKL hi hk (fun q => huv (by rw [q])) e hm
  obtain ⟨m, hmm, h1, h2⟩ : ∃ m, m < r.length ∧ m ≠ j ∧ m ≠ (j + 1) % r.length := by
    by_cases a0 : 0 ≠ j ∧ 0 ≠ (j + 1) % r.length
    · exact ⟨0, by omega, a0.1, a0.2⟩
    · by_cases a1 : 1 ≠ j ∧ 1 ≠ (j + 1) % r.length
      · exact ⟨1, by omega, a1.1, a1.2⟩
      · exact ⟨2, by omega, by omega, by omega⟩
  have d := h j hj m hmm h1 h2
  have hmm2 := hm _ (at0_mem hmm)
  refine ⟨j, hj, fun q hq => ?_⟩
  have hq' := hs q hq
  generalize at0 r i = u at *
  generalize at0 r j = a at *
  generalize rv r (j + 1) = b at *
  generalize at0 r m = c at *
  have E := det_lin K L a b c q
  rw [show lin K L b - lin K L a = 0 by omega, Int.zero_mul, Int.zero_add] at E
  have hpos : 0 < lin K L c - lin K L a := by
    rcases Int.lt_or_le (lin K L a) (lin K L c) with q' | q'
    · omega
    · have := flat3 hKL (a := a) (b := b) (c := c) (by omega) (by omega)
      omega
  have n : (lin K L q - lin K L a) * det a b c ≤ 0 := Int.mul_nonpos_of_nonpos_of_nonneg (by omega) (by omega)
  rcases Int.lt_or_le 0 (det a b q) with q' | q'
  · have := Int.mul_pos hpos q'
    omega
  · exact q'
def diffs (r s : List Pt) : List Pt := s.flatMap (fun q => r.map (fun p => (q.1 - p.1, q.2 - p.2)))
theorem mem_diffs {r s : List Pt} {v : Pt} : v ∈ diffs r s ↔ ∃ p ∈ r, ∃ q ∈ s, v = (q.1 - p.1, q.2 - p.2) := by
  unfold diffs
  rw [List.mem_flatMap]
  constructor
  · rintro ⟨q, hq, h⟩
    obtain ⟨p, hp, rfl⟩ := List.mem_map.1 h
    exact ⟨p, hp, q, hq, rfl⟩
  · rintro ⟨p, hp, q, hq, rfl⟩
    exact ⟨q, hq, List.mem_map.2 ⟨p, hp, rfl⟩⟩
theorem lin_diff (K L : Int) (p q : Pt) : lin K L (q.1 - p.1, q.2 - p.2) = lin K L q - lin K L p := by unfold lin; grind
/-- Two convex rings with a line between them have a separating edge. -/
theorem sat {r s : List Pt} (hr : ConvexI r) (hr3 : 3 ≤ r.length) (hs : ConvexI s) (hs3 : 3 ≤ s.length) (h : Parted r s) : SepD r s ∨ SepD s r := by
  obtain ⟨K, L, hKL, hP⟩ := h
  have hr0 : at0 r 0 ∈ r := at0_mem (by omega)
  have hnf : ¬ Flat (diffs r s) := fun hf => by
    refine not_flat (hs.self hs3) (fun u hu v hv w hw => ?_)
    have := hf _ (mem_diffs.2 ⟨_, hr0, u, hu, rfl⟩) _ (mem_diffs.2 ⟨_, hr0, v, hv, rfl⟩) _ (mem_diffs.2 ⟨_, hr0, w, hw, rfl⟩)
    rw [← this]
    unfold det
    grind
  obtain ⟨h, H⟩ := hull_ex hnf
  have h3 := H.three
  obtain ⟨i, hi, h0⟩ : ∃ i, i < h.length ∧ det (at0 h i) (rv h (i + 1)) (0, 0) ≤ 0 := by
    rcases Classical.em (∃ i, i < h.length ∧ det (at0 h i) (rv h (i + 1)) (0, 0) ≤ 0) with q | q
    · exact q
    · exfalso
      obtain ⟨v, hv, hlt⟩ := inside_less H hKL (o := (0, 0)) (fun i hi => Int.not_le.1 (fun q' => q ⟨i, hi, q'⟩))
      obtain ⟨p, hp, q, hq, rfl⟩ := mem_diffs.1 (H.sub v hv)
      have := hP p hp q hq
      rw [lin_diff, show lin K L (0, 0) = 0 by unfold lin; simp] at hlt
      omega
  have hne := H.next_ne hi
  have hl := H.left i hi
  obtain ⟨p1, hp1, q1, hq1, e1⟩ := mem_diffs.1 (H.sub _ (at0_mem hi))
  obtain ⟨p2, hp2, q2, hq2, e2⟩ := mem_diffs.1 (H.sub (rv h (i + 1)) (at0_mem (Nat.mod_lt _ (by omega))))
  have z1 := det_self (at0 h i) (rv h (i + 1))
  have z2 := det_end (at0 h i) (rv h (i + 1))
  obtain ⟨c, e⟩ := det_form (at0 h i) (rv h (i + 1))
  have hform := form_ne hne
  generalize -((rv h (i + 1)).2 - (at0 h i).2) = K' at *
  generalize (rv h (i + 1)).1 - (at0 h i).1 = L' at *
  rw [e, show lin K' L' (0, 0) = 0 by unfold lin; simp] at h0
  have z1' : lin K' L' (at0 h i) + c = 0 := by rw [← e]; exact z1
  have z2' : lin K' L' (rv h (i + 1)) + c = 0 := by rw [← e]; exact z2
  have hall : ∀ p ∈ r, ∀ q ∈ s, 0 ≤ lin K' L' q - lin K' L' p + c := fun p hp q hq => by
    have := hl _ (mem_diffs.2 ⟨p, hp, q, hq, rfl⟩)
    rw [e, lin_diff] at this
    exact this
  rw [e1, lin_diff] at z1'
  rw [e2, lin_diff] at z2'
  have b12 := hall p1 hp1 q2 hq2
  have b21 := hall p2 hp2 q1 hq1
  by_cases hq : q1 = q2
  · have hp : p1 ≠ p2 := fun hp => hne (by rw [e1, e2, hp, hq])
    subst hq
    left
    refine edge_sep hr hr3 (K := -K') (L := -L') (by omega) hp1 hp2 hp (by rw [lin_neg, lin_neg]; omega) (fun p hp => ?_) (fun q hq => ?_)
    · have := hall p hp q1 hq1
      rw [lin_neg, lin_neg]; omega
    · have := hall p1 hp1 q hq
      rw [lin_neg, lin_neg]; omega
  · right
    refine edge_sep hs hs3 hform hq1 hq2 hq (by omega) (fun q hq => ?_) (fun p hp => ?_)
    · have := hall p1 hp1 q hq
      omega
    · have := hall p hp q1 hq1
      omega
theorem parted_iff {r s : List Pt} (hr : ConvexI r) (hr3 : 3 ≤ r.length) (hs : ConvexI s) (hs3 : 3 ≤ s.length) : (SepD r s ∨ SepD s r) ↔ Parted r s :=
  ⟨fun h => h.elim (SepD.parted hr hr3) (fun h => (h.parted hs hs3).symm), sat hr hr3 hs hs3⟩
theorem PartBy.hull {l r s : List Pt} {K L : Int} (h : IsHull l r) : PartBy K L r s ↔ PartBy K L l s := by
  constructor
  · rintro ⟨h1, h2⟩
    refine ⟨h1, fun p hp q hq => ?_⟩
    obtain ⟨i, hi, hm⟩ := h.least (-K) (-L)
    have := hm p hp
    have := h2 _ (at0_mem hi) q hq
    rw [lin_neg, lin_neg] at *
    omega
  · exact fun h' => ⟨h'.1, fun p hp q hq => h'.2 p (h.sub p hp) q hq⟩
end Go.Proofs.Yticmfmcflikneaa
