/- Layer 15 (plain): the numbers of a row that lie inside. -/
import Derived.Test.YtkpnffokjpgalaaGreatKMinkP3
import Derived.Test.YtkpnffokjpgalaaGreatKBoxes
namespace Go.Proofs.YtkpnffokjpgalaaGreat
set_option linter.unusedVariables false
set_option linter.unusedSimpArgs false

theorem imax_eq (a b : Int) : imax a b = max a b := by unfold imax; split <;> omega
theorem imin_eq (a b : Int) : imin a b = min a b := by unfold imin; split <;> omega
theorem flat3 {K L : Int} (hKL : K ≠ 0 ∨ L ≠ 0) {a b c : Pt} (h1 : lin K L b = lin K L a) (h2 : lin K L c = lin K L a) : det a b c = 0 := by
  unfold lin at h1 h2
  have e1 : K * det a b c = 0 := by
    have : K * det a b c = (K * b.1 + L * b.2 - (K * a.1 + L * a.2)) * (c.2 - a.2) - (K * c.1 + L * c.2 - (K * a.1 + L * a.2)) * (b.2 - a.2) := by unfold det; grind
    rw [this, h1, h2, Int.sub_self, Int.zero_mul, Int.zero_mul]; rfl
  have e2 : L * det a b c = 0 := by
    have : L * det a b c = (K * c.1 + L * c.2 - (K * a.1 + L * a.2)) * (b.1 - a.1) - (K * b.1 + L * b.2 - (K * a.1 + L * a.2)) * (c.1 - a.1) := by unfold det; grind
    rw [this, h1, h2, Int.sub_self, Int.zero_mul, Int.zero_mul]; rfl
  rcases hKL with h | h
  · exact (Int.mul_eq_zero.1 e1).resolve_left h
  · exact (Int.mul_eq_zero.1 e2).resolve_left h
theorem inside_less {D h : List Pt} (H : IsHull D h) {K L : Int} (hKL : K ≠ 0 ∨ L ≠ 0) {o : Pt} (ho : ∀ i, i < h.length → 0 < det (at0 h i) (rv h (i + 1)) o) : ∃ v ∈ h, lin K L v < lin K L o := by
  have h3 := H.three
  obtain ⟨i, hi, hm⟩ := exists_least (lin K L) (r := h) (by intro e; rw [e] at h3; simp at h3)
  obtain ⟨j, hj, e, hc, hl, -⟩ := H.corner hi
  have hjo := ho j hj
  rw [e] at hjo
  have hio := ho i hi
  have ha := hm _ (at0_mem hj)
  have hb : lin K L (at0 h i) ≤ lin K L (rv h (i + 1)) := hm _ (at0_mem (Nat.mod_lt _ (by omega)))
  refine ⟨_, at0_mem hi, ?_⟩
  generalize at0 h j = a at *
  generalize at0 h i = v at *
  generalize rv h (i + 1) = b at *
  rcases Int.lt_or_le (lin K L v) (lin K L o) with q | q
  · exact q
  · exfalso
    have E : det a v b * (lin K L o - lin K L v) = det a v o * (lin K L b - lin K L v) + det v b o * (lin K L a - lin K L v) := by unfold det lin; grind
    have m0 : det a v b * (lin K L o - lin K L v) ≤ 0 := Int.mul_nonpos_of_nonneg_of_nonpos (Int.le_of_lt hc) (by omega)
    have m1 : 0 ≤ det a v o * (lin K L b - lin K L v) := Int.mul_nonneg (Int.le_of_lt hjo) (by omega)
    have m2 : 0 ≤ det v b o * (lin K L a - lin K L v) := Int.mul_nonneg (Int.le_of_lt hio) (by omega)
    have z1 : det a v o * (lin K L b - lin K L v) = 0 := by omega
    have z2 : det v b o * (lin K L a - lin K L v) = 0 := by omega
    have y1 := zero_of_mul hjo z1
    have y2 := zero_of_mul hio z2
    have := flat3 hKL (a := a) (b := v) (c := b) (by omega) (by omega)
    omega
/-- The box has all points, and one on each side. -/
structure BoxIs (l : List Pt) (b : Int × Int × Int × Int) : Prop where
  in1 : ∀ p ∈ l, b.1 ≤ p.1 ∧ b.2.1 ≤ p.2 ∧ p.1 ≤ b.2.2.1 ∧ p.2 ≤ b.2.2.2
  at1 : ∃ p ∈ l, p.1 = b.1
  at2 : ∃ p ∈ l, p.2 = b.2.1
  at3 : ∃ p ∈ l, p.1 = b.2.2.1
  at4 : ∃ p ∈ l, p.2 = b.2.2.2
theorem bstep_is {l : List Pt} {b : Int × Int × Int × Int} (h : BoxIs l b) (p : Pt) : BoxIs (l ++ [p]) (bstep b p) := by
  have e1 := imin_eq b.1 p.1
  have e2 := imin_eq b.2.1 p.2
  have e3 := imax_eq b.2.2.1 p.1
  have e4 := imax_eq b.2.2.2 p.2
  obtain ⟨h0, ⟨p1, m1, q1⟩, ⟨p2, m2, q2⟩, ⟨p3, m3, q3⟩, ⟨p4, m4, q4⟩⟩ := h
  unfold bstep
  refine ⟨fun q hq => ?_, ?_, ?_, ?_, ?_⟩
  · simp only
    rcases List.mem_append.1 hq with hq | hq
    · have := h0 q hq
      omega
    · rw [List.mem_singleton] at hq
      subst hq
      omega
  · simp only
    by_cases c : b.1 ≤ p.1
    · exact ⟨p1, List.mem_append_left _ m1, by omega⟩
    · exact ⟨p, List.mem_append_right _ (by simp), by omega⟩
  · simp only
    by_cases c : b.2.1 ≤ p.2
    · exact ⟨p2, List.mem_append_left _ m2, by omega⟩
    · exact ⟨p, List.mem_append_right _ (by simp), by omega⟩
  · simp only
    by_cases c : p.1 ≤ b.2.2.1
    · exact ⟨p3, List.mem_append_left _ m3, by omega⟩
    · exact ⟨p, List.mem_append_right _ (by simp), by omega⟩
  · simp only
    by_cases c : p.2 ≤ b.2.2.2
    · exact ⟨p4, List.mem_append_left _ m4, by omega⟩
    · exact ⟨p, List.mem_append_right _ (by simp), by omega⟩
theorem fold_is : ∀ (l m : List Pt) (b : Int × Int × Int × Int), BoxIs m b → BoxIs (m ++ l) (l.foldl bstep b)
  | [], m, b, h => by rw [List.append_nil]; exact h
  | p :: l, m, b, h => by
    have := fold_is l (m ++ [p]) (bstep b p) (bstep_is h p)
    rwa [List.append_assoc] at this
theorem BoxIs.sub {l m : List Pt} {b : Int × Int × Int × Int} (h : BoxIs m b) (hm : ∀ p, p ∈ m ↔ p ∈ l) : BoxIs l b := by
  obtain ⟨h0, ⟨p1, m1, q1⟩, ⟨p2, m2, q2⟩, ⟨p3, m3, q3⟩, ⟨p4, m4, q4⟩⟩ := h
  exact ⟨fun p hp => h0 p ((hm p).2 hp), ⟨p1, (hm _).1 m1, q1⟩, ⟨p2, (hm _).1 m2, q2⟩, ⟨p3, (hm _).1 m3, q3⟩, ⟨p4, (hm _).1 m4, q4⟩⟩
theorem boxOf_is {l : List Pt} (h : 0 < l.length) : BoxIs l (boxOf l) := by
  match l, h with
  | p :: l, _ =>
    have h0 : BoxIs [p] (p.1, p.2, p.1, p.2) := ⟨fun q hq => by
      rw [List.mem_singleton] at hq
      subst hq
      exact ⟨Int.le_refl _, Int.le_refl _, Int.le_refl _, Int.le_refl _⟩, ⟨p, by simp, rfl⟩, ⟨p, by simp, rfl⟩, ⟨p, by simp, rfl⟩, ⟨p, by simp, rfl⟩⟩
    have := fold_is (p :: l) [p] (p.1, p.2, p.1, p.2) h0
    exact this.sub (fun q => by simp)
def rowN (r : List Pt) (y : Int) (i : Nat) : Int := (edgeV r i).1 * (y - (at0 r i).2)
def rowHi (r : List Pt) (y : Int) : Nat → Int
  | 0 => 8000
  | k + 1 => if 0 < (edgeV r k).2 then min (rowHi r y k) ((at0 r k).1 + (rowN r y k - 1) / (edgeV r k).2) else rowHi r y k
def rowLo (r : List Pt) (y : Int) : Nat → Int
  | 0 => -8000
  | k + 1 => if (edgeV r k).2 < 0 then max (rowLo r y k) ((at0 r k).1 + -rowN r y k / -(edgeV r k).2 + 1) else rowLo r y k
theorem det_row {r : List Pt} {i : Nat} (hi : i < r.length) (x y : Int) : det (at0 r i) (rv r (i + 1)) (x, y) = rowN r y i - (edgeV r i).2 * (x - (at0 r i).1) := by
  unfold rowN edgeV det subP
  rw [rv_lt hi]
theorem row_hi {r : List Pt} {y x : Int} : ∀ k, x ≤ rowHi r y k ↔ x ≤ 8000 ∧ ∀ i, i < k → 0 < (edgeV r i).2 → (edgeV r i).2 * (x - (at0 r i).1) < rowN r y i
  | 0 => by unfold rowHi; exact ⟨fun h => ⟨h, fun i hi => by omega⟩, fun h => h.1⟩
  | k + 1 => by
    have ih := row_hi (r := r) (y := y) (x := x) k
    unfold rowHi
    by_cases h : 0 < (edgeV r k).2
    · rw [if_pos h]
      have key : x ≤ (at0 r k).1 + (rowN r y k - 1) / (edgeV r k).2 ↔ (edgeV r k).2 * (x - (at0 r k).1) < rowN r y k := by
        have := Int.le_ediv_iff_mul_le (a := x - (at0 r k).1) (b := rowN r y k - 1) h
        rw [Int.mul_comm (edgeV r k).2]
        omega
      constructor
      · intro hx
        obtain ⟨a, b⟩ := ih.1 (by omega)
        refine ⟨a, fun i hi hp => ?_⟩
        by_cases e : i = k
        · subst e; exact key.1 (by omega)
        · exact b i (by omega) hp
      · rintro ⟨a, b⟩
        have h1 := ih.2 ⟨a, fun i hi hp => b i (by omega) hp⟩
        have h2 := key.2 (b k (by omega) h)
        omega
    · rw [if_neg h, ih]
      constructor
      · rintro ⟨a, b⟩
        refine ⟨a, fun i hi hp => ?_⟩
        by_cases e : i = k
        · subst e; exact absurd hp h
        · exact b i (by omega) hp
      · rintro ⟨a, b⟩
        exact ⟨a, fun i hi hp => b i (by omega) hp⟩
theorem row_lo {r : List Pt} {y x : Int} : ∀ k, rowLo r y k ≤ x ↔ -8000 ≤ x ∧ ∀ i, i < k → (edgeV r i).2 < 0 → (edgeV r i).2 * (x - (at0 r i).1) < rowN r y i
  | 0 => by unfold rowLo; exact ⟨fun h => ⟨h, fun i hi => by omega⟩, fun h => h.1⟩
  | k + 1 => by
    have ih := row_lo (r := r) (y := y) (x := x) k
    unfold rowLo
    by_cases h : (edgeV r k).2 < 0
    · rw [if_pos h]
      have key : (at0 r k).1 + -rowN r y k / -(edgeV r k).2 + 1 ≤ x ↔ (edgeV r k).2 * (x - (at0 r k).1) < rowN r y k := by
        have := Int.ediv_lt_iff_lt_mul (a := -rowN r y k) (b := x - (at0 r k).1) (c := -(edgeV r k).2) (by omega)
        have e : (x - (at0 r k).1) * -(edgeV r k).2 = -((edgeV r k).2 * (x - (at0 r k).1)) := by rw [Int.mul_neg, Int.mul_comm]
        rw [e] at this
        omega
      constructor
      · intro hx
        obtain ⟨a, b⟩ := ih.1 (by omega)
        refine ⟨a, fun i hi hp => ?_⟩
        by_cases e : i = k
        · subst e; exact key.1 (by omega)
        · exact b i (by omega) hp
      · rintro ⟨a, b⟩
        have h1 := ih.2 ⟨a, fun i hi hp => b i (by omega) hp⟩
        have h2 := key.2 (b k (by omega) h)
        omega
    · rw [if_neg h, ih]
      constructor
      · rintro ⟨a, b⟩
        refine ⟨a, fun i hi hp => ?_⟩
        by_cases e : i = k
        · subst e; exact absurd hp h
        · exact b i (by omega) hp
      · rintro ⟨a, b⟩
        exact ⟨a, fun i hi hp => b i (by omega) hp⟩
/-- (x, y) lies inside. -/
def RowIn (r : List Pt) (y x : Int) : Prop := ∀ i, i < r.length → 0 < det (at0 r i) (rv r (i + 1)) (x, y)
theorem row_box {r : List Pt} (h : Conv15 r) {y x : Int} (hin : RowIn r y x) : (boxOf r).2.1 < y ∧ y < (boxOf r).2.2.2 ∧ (boxOf r).1 < x ∧ x < (boxOf r).2.2.1 := by
  obtain ⟨h3, -, -, hc⟩ := h
  have hb := boxOf_is (l := r) (by omega)
  have H := hc.self h3
  obtain ⟨v1, m1, q1⟩ := inside_less H (K := 0) (L := 1) (by omega) hin
  obtain ⟨v2, m2, q2⟩ := inside_less H (K := 0) (L := -1) (by omega) hin
  obtain ⟨v3, m3, q3⟩ := inside_less H (K := 1) (L := 0) (by omega) hin
  obtain ⟨v4, m4, q4⟩ := inside_less H (K := -1) (L := 0) (by omega) hin
  have b1 := hb.in1 _ m1
  have b2 := hb.in1 _ m2
  have b3 := hb.in1 _ m3
  have b4 := hb.in1 _ m4
  unfold lin at q1 q2 q3 q4
  simp only at q1 q2 q3 q4
  omega
theorem row_range {r : List Pt} (h : Conv15 r) {y : Int} (hy1 : (boxOf r).2.1 < y) (hy2 : y < (boxOf r).2.2.2) (x : Int) : RowIn r y x ↔ rowLo r y r.length ≤ x ∧ x ≤ rowHi r y r.length := by
  have h' := h
  obtain ⟨h3, -, hn, hc⟩ := h'
  have hb := boxOf_is (l := r) (by omega)
  rw [row_lo, row_hi]
  constructor
  · intro hin
    obtain ⟨-, -, b3, b4⟩ := row_box h hin
    obtain ⟨p1, m1, q1⟩ := hb.at1
    obtain ⟨p3, m3, q3⟩ := hb.at3
    have n1 := hn _ m1
    have n3 := hn _ m3
    unfold near at n1 n3
    have key : ∀ i, i < r.length → (edgeV r i).2 * (x - (at0 r i).1) < rowN r y i := fun i hi => by
      have := hin i hi
      rw [det_row hi] at this
      omega
    exact ⟨⟨by omega, fun i hi _ => key i hi⟩, ⟨by omega, fun i hi _ => key i hi⟩⟩
  · rintro ⟨⟨-, hl⟩, ⟨-, hh⟩⟩ i hi
    rw [det_row hi]
    rcases Int.lt_trichotomy (edgeV r i).2 0 with q | q | q
    · have := hl i hi q; omega
    · rw [q, Int.zero_mul, Int.sub_zero]
      obtain ⟨v1, m1, q1⟩ := hb.at2
      obtain ⟨v2, m2, q2⟩ := hb.at4
      have l1 := hc.left i hi _ m1
      have l2 := hc.left i hi _ m2
      have e := fun (v : Pt) => det_row hi v.1 v.2
      have e1 : det (at0 r i) (rv r (i + 1)) v1 = (edgeV r i).1 * (v1.2 - (at0 r i).2) := by
        have := e v1
        rw [q, Int.zero_mul, Int.sub_zero] at this
        exact this
      have e2 : det (at0 r i) (rv r (i + 1)) v2 = (edgeV r i).1 * (v2.2 - (at0 r i).2) := by
        have := e v2
        rw [q, Int.zero_mul, Int.sub_zero] at this
        exact this
      rw [e1] at l1
      rw [e2] at l2
      have hne := (hc.self h3).next_ne hi
      have hd : (edgeV r i).1 ≠ 0 := fun z => by
        unfold edgeV subP at z q
        rw [rv_lt hi] at z q
        simp only at z q
        exact hne (Prod.ext (by omega) (by omega))
      have ba := hb.in1 _ (at0_mem hi)
      unfold rowN
      generalize (edgeV r i).1 = d at *
      rcases Int.lt_or_gt_of_ne hd with g | g
      · have hle : v2.2 ≤ (at0 r i).2 := by
          rcases Int.lt_or_le (at0 r i).2 v2.2 with c | c
          · have := Int.mul_neg_of_neg_of_pos g (show 0 < v2.2 - (at0 r i).2 by omega)
            omega
          · exact c
        have hy : y - (at0 r i).2 < 0 := by
          rcases Int.lt_or_eq_of_le ba.2.2.2 with c | c
          · omega
          · omega
        exact Int.mul_pos_of_neg_of_neg g hy
      · have hle : (at0 r i).2 ≤ v1.2 := by
          rcases Int.lt_or_le v1.2 (at0 r i).2 with c | c
          · have := Int.mul_neg_of_pos_of_neg g (show v1.2 - (at0 r i).2 < 0 by omega)
            omega
          · exact c
        exact Int.mul_pos g (by omega)
    · have := hh i hi q; omega
/-- The range of a row: empty, or what lies inside. -/
def rowR (r : List Pt) (y : Int) : Int × Int := if (boxOf r).2.1 < y ∧ y < (boxOf r).2.2.2 then (rowLo r y r.length, rowHi r y r.length) else (1, 0)
theorem rowR_iff {r : List Pt} (h : Conv15 r) (y x : Int) : RowIn r y x ↔ (rowR r y).1 ≤ x ∧ x ≤ (rowR r y).2 := by
  unfold rowR
  by_cases c : (boxOf r).2.1 < y ∧ y < (boxOf r).2.2.2
  · rw [if_pos c]; exact row_range h c.1 c.2 x
  · rw [if_neg c]
    constructor
    · intro hin
      have := row_box h hin
      exact absurd ⟨this.1, this.2.1⟩ c
    · simp only
      omega
/-- What Row returns. -/
def rowM (r : List Pt) (y : Int) : Int × Int × Bool := if validB r = true ∧ (rowR r y).1 ≤ (rowR r y).2 then ((rowR r y).1, (rowR r y).2, true) else (0, 0, false)
end Go.Proofs.YtkpnffokjpgalaaGreat
