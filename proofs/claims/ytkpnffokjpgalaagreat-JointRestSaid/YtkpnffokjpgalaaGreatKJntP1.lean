/- Layer 46 (plain): how two segments meet: skew lines, parallel ones, the order along a line. -/
import Derived.Test.YtkpnffokjpgalaaGreatKSl
import Derived.Test.YtkpnffokjpgalaaGreatKVecB
namespace Go.Proofs.YtkpnffokjpgalaaGreat
set_option linter.unusedVariables false
set_option linter.unusedSimpArgs false

/-- p lies in the box of a and b. -/
def inX (a b p : Pt) : Prop := imin a.1 b.1 ≤ p.1 ∧ p.1 ≤ imax a.1 b.1 ∧ imin a.2 b.2 ≤ p.2 ∧ p.2 ≤ imax a.2 b.2
theorem between (a b x : Int) : (imin a b ≤ x ∧ x ≤ imax a b) ↔ ((a ≤ x ∧ x ≤ b) ∨ (b ≤ x ∧ x ≤ a)) := by
  unfold imin imax
  split <;> split <;> omega
/-- On a line that is not parallel the place of a point tells whether it lies between the ends. -/
theorem part_between {d b x v : Int} (hd : 0 < d) (h : x * d = b * v) (h0 : 0 ≤ b) (h1 : b ≤ d) : (0 ≤ x ∧ x ≤ v) ∨ (v ≤ x ∧ x ≤ 0) := by
  rcases Int.lt_or_le v 0 with hv | hv
  · right
    constructor
    · have h2 : 0 ≤ d * (x - v) := by
        have e : d * (x - v) = (d - b) * (-v) := by grind
        rw [e]
        exact Int.mul_nonneg (by omega) (by omega)
      have := nonneg_of_mul hd h2
      omega
    · have h2 : 0 ≤ d * (-x) := by
        have e : d * (-x) = b * (-v) := by grind
        rw [e]
        exact Int.mul_nonneg h0 (by omega)
      have := nonneg_of_mul hd h2
      omega
  · left
    constructor
    · have h2 : 0 ≤ d * x := by
        have e : d * x = b * v := by grind
        rw [e]
        exact Int.mul_nonneg h0 hv
      exact nonneg_of_mul hd h2
    · have h2 : 0 ≤ d * (v - x) := by
        have e : d * (v - x) = (d - b) * v := by grind
        rw [e]
        exact Int.mul_nonneg (by omega) hv
      have := nonneg_of_mul hd h2
      omega
theorem between_part {d b x v : Int} (hd : 0 < d) (hv : v ≠ 0) (h : x * d = b * v) (hx : (0 ≤ x ∧ x ≤ v) ∨ (v ≤ x ∧ x ≤ 0)) : 0 ≤ b ∧ b ≤ d := by
  rcases Int.lt_or_le v 0 with hn | hp
  · have hx2 : v ≤ x ∧ x ≤ 0 := by omega
    have hw : 0 < -v := by omega
    constructor
    · refine nonneg_of_mul hw ?_
      have e : -v * b = d * (-x) := by grind
      rw [e]
      exact Int.mul_nonneg (by omega) (by omega)
    · have : 0 ≤ d - b := nonneg_of_mul hw (by
        have e : -v * (d - b) = d * (x - v) := by grind
        rw [e]
        exact Int.mul_nonneg (by omega) (by omega))
      omega
  · have hw : 0 < v := by omega
    have hx2 : 0 ≤ x ∧ x ≤ v := by omega
    constructor
    · refine nonneg_of_mul hw ?_
      have e : v * b = d * x := by grind
      rw [e]
      exact Int.mul_nonneg (by omega) (by omega)
    · have : 0 ≤ d - b := nonneg_of_mul hw (by
        have e : v * (d - b) = d * (v - x) := by grind
        rw [e]
        exact Int.mul_nonneg (by omega) (by omega))
      omega
/-- A point of the line c d: it lies in the box exactly if its place is between 0 and the whole. -/
theorem box_place {c d p : Pt} {k n : Int} (hn : 0 < n) (hne : c ≠ d) (h1 : (p.1 - c.1) * n = k * (d.1 - c.1)) (h2 : (p.2 - c.2) * n = k * (d.2 - c.2)) : inX c d p ↔ 0 ≤ k ∧ k ≤ n := by
  unfold inX
  constructor
  · rintro ⟨x1, x2, y1, y2⟩
    have bx := (between c.1 d.1 p.1).1 ⟨x1, x2⟩
    have by' := (between c.2 d.2 p.2).1 ⟨y1, y2⟩
    by_cases hx : d.1 - c.1 = 0
    · have hy : d.2 - c.2 ≠ 0 := fun hy => hne (Prod.ext (by omega) (by omega))
      exact between_part hn hy h2 (by omega)
    · exact between_part hn hx h1 (by omega)
  · rintro ⟨k0, k1⟩
    have bx := part_between hn h1 k0 k1
    have by' := part_between hn h2 k0 k1
    have q1 := (between c.1 d.1 p.1).2 (by omega)
    have q2 := (between c.2 d.2 p.2).2 (by omega)
    exact ⟨q1.1, q1.2, q2.1, q2.2⟩
theorem inX_left (a b : Pt) : inX a b a := by
  have q1 := (between a.1 b.1 a.1).2 (by omega)
  have q2 := (between a.2 b.2 a.2).2 (by omega)
  exact ⟨q1.1, q1.2, q2.1, q2.2⟩
theorem inX_right (a b : Pt) : inX a b b := by
  have q1 := (between a.1 b.1 b.1).2 (by omega)
  have q2 := (between a.2 b.2 b.2).2 (by omega)
  exact ⟨q1.1, q1.2, q2.1, q2.2⟩
/-- A point of a segment. -/
def onS (a b p : Pt) : Prop := inX a b p ∧ det a b p = 0
/-- The cross product of two directions. -/
def cr4 (a b c d : Pt) : Int := (b.1 - a.1) * (d.2 - c.2) - (b.2 - a.2) * (d.1 - c.1)
section
variable {a b c d : Pt}
theorem det_b : det a b d = det a b c + cr4 a b c d := by unfold det cr4; grind
theorem det_a : det c d b = det c d a - cr4 a b c d := by unfold det cr4; grind
/-- Where a lies on the line c d, if it does. -/
theorem on_a (hd : cr4 a b c d ≠ 0) (hn : c ≠ d) : onS c d a ↔ det c d a = 0 ∧ ((0 ≤ -det a b c ∧ -det a b c ≤ cr4 a b c d) ∨ (cr4 a b c d ≤ -det a b c ∧ -det a b c ≤ 0)) := by
  unfold onS
  constructor
  · rintro ⟨hx, h0⟩
    refine ⟨h0, ?_⟩
    have e1 : (a.1 - c.1) * cr4 a b c d = -det a b c * (d.1 - c.1) + -(det c d a) * (b.1 - a.1) := by unfold det cr4; grind
    have e2 : (a.2 - c.2) * cr4 a b c d = -det a b c * (d.2 - c.2) + -(det c d a) * (b.2 - a.2) := by unfold det cr4; grind
    rw [h0] at e1 e2
    rcases Int.lt_or_gt_of_ne hd with h | h
    · right
      have := (box_place (n := -cr4 a b c d) (k := det a b c) (by omega) hn (p := a) (by grind) (by grind)).1 hx
      omega
    · left
      have := (box_place (n := cr4 a b c d) (k := -det a b c) (by omega) hn (p := a) (by grind) (by grind)).1 hx
      omega
  · rintro ⟨h0, h1⟩
    refine ⟨?_, h0⟩
    have e1 : (a.1 - c.1) * cr4 a b c d = -det a b c * (d.1 - c.1) + -(det c d a) * (b.1 - a.1) := by unfold det cr4; grind
    have e2 : (a.2 - c.2) * cr4 a b c d = -det a b c * (d.2 - c.2) + -(det c d a) * (b.2 - a.2) := by unfold det cr4; grind
    rw [h0] at e1 e2
    rcases Int.lt_or_gt_of_ne hd with h | h
    · exact (box_place (n := -cr4 a b c d) (k := det a b c) (by omega) hn (p := a) (by grind) (by grind)).2 (by omega)
    · exact (box_place (n := cr4 a b c d) (k := -det a b c) (by omega) hn (p := a) (by grind) (by grind)).2 (by omega)
/-- Between nothing and d, in either order. -/
def btw (x d : Int) : Prop := (0 ≤ x ∧ x ≤ d) ∨ (d ≤ x ∧ x ≤ 0)
theorem cr4_ne (hd : cr4 a b c d ≠ 0) : a ≠ b ∧ c ≠ d := by
  constructor
  · intro e
    subst e
    exact hd (by unfold cr4; grind)
  · intro e
    subst e
    exact hd (by unfold cr4; grind)
theorem on_four (hd : cr4 a b c d ≠ 0) : (onS c d a ↔ det c d a = 0 ∧ btw (-det a b c) (cr4 a b c d)) ∧ (onS c d b ↔ det c d a = cr4 a b c d ∧ btw (-det a b c) (cr4 a b c d)) ∧ (onS a b c ↔ det a b c = 0 ∧ btw (det c d a) (cr4 a b c d)) ∧ (onS a b d ↔ -det a b c = cr4 a b c d ∧ btw (det c d a) (cr4 a b c d)) := by
  obtain ⟨n1, n2⟩ := cr4_ne hd
  have e1 : cr4 b a c d = -cr4 a b c d := by unfold cr4; grind
  have e2 : det b a c = -det a b c := by unfold det; grind
  have e3 : cr4 c d a b = -cr4 a b c d := by unfold cr4; grind
  have e4 : cr4 d c a b = cr4 a b c d := by unfold cr4; grind
  have e5 : det d c a = -det c d a := by unfold det; grind
  have e6 := @det_a a b c d
  have e7 := @det_b a b c d
  refine ⟨?_, ?_, ?_, ?_⟩
  · rw [on_a hd n2]; unfold btw; omega
  · rw [on_a (a := b) (b := a) (by omega) n2, e1, e2, e6]; unfold btw; omega
  · rw [on_a (a := c) (b := d) (c := a) (d := b) (by omega) n1, e3]; unfold btw; omega
  · rw [on_a (a := d) (b := c) (c := a) (d := b) (by omega) n1, e4, e5, e7]; unfold btw; omega
/-- The sides lie strictly apart. -/
def strict (x y : Int) : Prop := (x < 0 ∧ 0 < y) ∨ (0 < x ∧ y < 0)
theorem skew_any (hd : cr4 a b c d ≠ 0) : (onS c d a ∨ onS c d b ∨ onS a b c ∨ onS a b d) ↔ (btw (det c d a) (cr4 a b c d) ∧ btw (-det a b c) (cr4 a b c d)) ∧ (det c d a = 0 ∨ det c d a = cr4 a b c d ∨ det a b c = 0 ∨ -det a b c = cr4 a b c d) := by
  obtain ⟨h1, h2, h3, h4⟩ := on_four hd
  rw [h1, h2, h3, h4]
  unfold btw
  omega
theorem skew_strict : (strict (det a b c) (det a b d) ∧ strict (det c d a) (det c d b)) ↔ (btw (det c d a) (cr4 a b c d) ∧ btw (-det a b c) (cr4 a b c d)) ∧ ¬ (det c d a = 0 ∨ det c d a = cr4 a b c d ∨ det a b c = 0 ∨ -det a b c = cr4 a b c d) := by
  rw [@det_a a b c d, @det_b a b c d]
  unfold btw strict
  omega
theorem skew_one (hd : cr4 a b c d ≠ 0) {p q : Pt} (h1 : det a b p = 0) (h2 : det c d p = 0) (h3 : det a b q = 0) (h4 : det c d q = 0) : p = q := by
  have e1 : (q.1 - p.1) * cr4 a b c d = (det a b q - det a b p) * (d.1 - c.1) - (det c d q - det c d p) * (b.1 - a.1) := by unfold det cr4; grind
  have e2 : (q.2 - p.2) * cr4 a b c d = (det a b q - det a b p) * (d.2 - c.2) - (det c d q - det c d p) * (b.2 - a.2) := by unfold det cr4; grind
  rw [h1, h2, h3, h4] at e1 e2
  simp only [Int.sub_zero, Int.zero_mul] at e1 e2
  have f1 := (Int.mul_eq_zero.1 e1).resolve_right hd
  have f2 := (Int.mul_eq_zero.1 e2).resolve_right hd
  exact Prod.ext (by omega) (by omega)
end
/-- Points of coordinates within 4000. -/
def near4 (p : Pt) : Prop := (-4000 ≤ p.1 ∧ p.1 ≤ 4000) ∧ (-4000 ≤ p.2 ∧ p.2 ≤ 4000)
/-- The place of a point in the order by Y and then X. -/
def key (p : Pt) : Int := 8001 * p.2 + p.1
theorem key_inj {p q : Pt} (hp : near4 p) (hq : near4 q) : key p = key q ↔ p = q := by
  unfold near4 at hp hq
  unfold key
  constructor
  · intro h
    exact Prod.ext (by omega) (by omega)
  · rintro rfl; rfl
theorem line_box {a b p : Pt} (ha : near4 a) (hb : near4 b) (hp : near4 p) (hne : a ≠ b) (h : det a b p = 0) : inX a b p ↔ btw (key p - key a) (key b - key a) := by
  have e : (p.1 - a.1) * (b.2 - a.2) = (p.2 - a.2) * (b.1 - a.1) := by unfold det at h; grind
  unfold near4 at ha hb hp
  by_cases h2 : b.2 - a.2 = 0
  · have h1 : b.1 - a.1 ≠ 0 := fun h1 => hne (Prod.ext (by omega) (by omega))
    rw [h2, Int.mul_zero] at e
    have f := (Int.mul_eq_zero.1 e.symm).resolve_right h1
    unfold inX btw key
    have q1 := between a.1 b.1 p.1
    have q2 := between a.2 b.2 p.2
    constructor
    · rintro ⟨x1, x2, y1, y2⟩
      have := q1.1 ⟨x1, x2⟩
      omega
    · intro hk
      have r1 := q1.2 (by omega)
      have r2 := q2.2 (by omega)
      exact ⟨r1.1, r1.2, r2.1, r2.2⟩
  · have s1 : p.2 = a.2 → p.1 = a.1 := fun hh => by
      rw [hh, Int.sub_self, Int.zero_mul] at e
      have := (Int.mul_eq_zero.1 e).resolve_right h2
      omega
    have s2 : p.2 = b.2 → p.1 = b.1 := fun hh => by
      have e3 : (p.1 - b.1) * (b.2 - a.2) = 0 := by grind
      have := (Int.mul_eq_zero.1 e3).resolve_right h2
      omega
    rcases Int.lt_or_gt_of_ne h2 with hn | hp2
    · rw [box_place (n := a.2 - b.2) (k := a.2 - p.2) (by omega) hne (by grind) (by grind)]
      unfold btw key
      constructor
      · intro hk
        by_cases k1 : p.2 = a.2
        · have := s1 k1; omega
        · by_cases k2 : p.2 = b.2
          · have := s2 k2; omega
          · omega
      · intro hk; omega
    · rw [box_place (n := b.2 - a.2) (k := p.2 - a.2) (by omega) hne (by grind) (by grind)]
      unfold btw key
      constructor
      · intro hk
        by_cases k1 : p.2 = a.2
        · have := s1 k1; omega
        · by_cases k2 : p.2 = b.2
          · have := s2 k2; omega
          · omega
      · intro hk; omega
/-- Parallel segments: off one line if one end is. -/
theorem par_off {a b c d : Pt} (hd : cr4 a b c d = 0) (hab : a ≠ b) (hcd : c ≠ d) : det a b c = 0 ↔ det c d a = 0 := by
  have i1 : det a b c * (d.1 - c.1) = -(det c d a) * (b.1 - a.1) + (c.1 - a.1) * cr4 a b c d := by unfold det cr4; grind
  have i2 : det a b c * (d.2 - c.2) = -(det c d a) * (b.2 - a.2) + (c.2 - a.2) * cr4 a b c d := by unfold det cr4; grind
  rw [hd] at i1 i2
  constructor
  · intro h
    rw [h] at i1 i2
    rcases Int.mul_eq_zero.1 (show det c d a * (b.1 - a.1) = 0 by grind) with h1 | h1
    · exact h1
    · rcases Int.mul_eq_zero.1 (show det c d a * (b.2 - a.2) = 0 by grind) with h2 | h2
      · exact h2
      · exact absurd (Prod.ext (by omega) (by omega)) hab
  · intro h
    rw [h] at i1 i2
    rcases Int.mul_eq_zero.1 (show det a b c * (d.1 - c.1) = 0 by grind) with h1 | h1
    · exact h1
    · rcases Int.mul_eq_zero.1 (show det a b c * (d.2 - c.2) = 0 by grind) with h2 | h2
      · exact h2
      · exact absurd (Prod.ext (by omega) (by omega)) hcd
def lo2 (a b : Int) : Int := if b < a then b else a
def hi2 (a b : Int) : Int := if a < b then b else a
/-- Segments on one line, by the keys of their ends. -/
theorem par_on {a b c d : Pt} (ha : near4 a) (hb : near4 b) (hc : near4 c) (hdn : near4 d) (hd : cr4 a b c d = 0) (hab : a ≠ b) (hcd : c ≠ d) (h0 : det a b c = 0) :
    (onS c d a ↔ btw (key a - key c) (key d - key c)) ∧ (onS c d b ↔ btw (key b - key c) (key d - key c)) ∧ (onS a b c ↔ btw (key c - key a) (key b - key a)) ∧ (onS a b d ↔ btw (key d - key a) (key b - key a)) := by
  have k0 := (par_off hd hab hcd).1 h0
  have e6 := @det_a a b c d
  have e7 := @det_b a b c d
  rw [hd] at e6 e7
  have k1 : det c d b = 0 := by omega
  have k2 : det a b d = 0 := by omega
  unfold onS
  refine ⟨?_, ?_, ?_, ?_⟩
  · rw [line_box hc hdn ha hcd k0]; simp [k0]
  · rw [line_box hc hdn hb hcd k1]; simp [k1]
  · rw [line_box ha hb hc hab h0]; simp [h0]
  · rw [line_box ha hb hdn hab k2]; simp [k2]
end Go.Proofs.YtkpnffokjpgalaaGreat
/- Layer 46 (plain): the kinds of meeting, as the program reckons them, say which ends two segments have in common. -/
namespace Go.Proofs.YtkpnffokjpgalaaGreat
set_option linter.unusedVariables false
set_option linter.unusedSimpArgs false

/-- An end that lies on both segments. -/
def Com (a b c d p : Pt) : Prop := (p = a ∨ p = b ∨ p = c ∨ p = d) ∧ onS a b p ∧ onS c d p
theorem on_left (a b : Pt) : onS a b a := ⟨inX_left a b, by unfold det; grind⟩
theorem on_right (a b : Pt) : onS a b b := ⟨inX_right a b, by unfold det; grind⟩
theorem on_point {a p : Pt} : onS a a p ↔ p = a := by
  constructor
  · rintro ⟨⟨x1, x2, y1, y2⟩, -⟩
    have q1 := (between a.1 a.1 p.1).1 ⟨x1, x2⟩
    have q2 := (between a.2 a.2 p.2).1 ⟨y1, y2⟩
    exact Prod.ext (by omega) (by omega)
  · rintro rfl
    exact on_left p p
theorem com_ends {a b c d p : Pt} : Com a b c d p ↔ (p = a ∧ onS c d a) ∨ (p = b ∧ onS c d b) ∨ (p = c ∧ onS a b c) ∨ (p = d ∧ onS a b d) := by
  unfold Com
  constructor
  · rintro ⟨rfl | rfl | rfl | rfl, h1, h2⟩
    · exact .inl ⟨rfl, h2⟩
    · exact .inr (.inl ⟨rfl, h2⟩)
    · exact .inr (.inr (.inl ⟨rfl, h1⟩))
    · exact .inr (.inr (.inr ⟨rfl, h1⟩))
  · rintro (⟨rfl, h⟩ | ⟨rfl, h⟩ | ⟨rfl, h⟩ | ⟨rfl, h⟩)
    · exact ⟨.inl rfl, on_left _ _, h⟩
    · exact ⟨.inr (.inl rfl), on_right _ _, h⟩
    · exact ⟨.inr (.inr (.inl rfl)), h, on_left _ _⟩
    · exact ⟨.inr (.inr (.inr rfl)), h, on_right _ _⟩
def mnK (p q : Pt) : Pt := if key q < key p then q else p
def mxK (p q : Pt) : Pt := if key p < key q then q else p
def loK (a b c d : Pt) : Pt := mxK (mnK a b) (mnK c d)
def hiK (a b c d : Pt) : Pt := mnK (mxK a b) (mxK c d)
theorem mnK_near {p q : Pt} (hp : near4 p) (hq : near4 q) : near4 (mnK p q) := by unfold mnK; split <;> assumption
theorem mxK_near {p q : Pt} (hp : near4 p) (hq : near4 q) : near4 (mxK p q) := by unfold mxK; split <;> assumption
theorem mnK_key (p q : Pt) : key (mnK p q) = if key q < key p then key q else key p := by unfold mnK; split <;> rfl
theorem mxK_key (p q : Pt) : key (mxK p q) = if key p < key q then key q else key p := by unfold mxK; split <;> rfl
theorem mnK_or (p q : Pt) : mnK p q = p ∨ mnK p q = q := by unfold mnK; split <;> simp
theorem mxK_or (p q : Pt) : mxK p q = p ∨ mxK p q = q := by unfold mxK; split <;> simp
section
variable {a b c d : Pt}
theorem loK_or : loK a b c d = a ∨ loK a b c d = b ∨ loK a b c d = c ∨ loK a b c d = d := by
  unfold loK
  rcases mxK_or (mnK a b) (mnK c d) with h | h <;> rw [h]
  · rcases mnK_or a b with h | h <;> simp [h]
  · rcases mnK_or c d with h | h <;> simp [h]
theorem hiK_or : hiK a b c d = a ∨ hiK a b c d = b ∨ hiK a b c d = c ∨ hiK a b c d = d := by
  unfold hiK
  rcases mnK_or (mxK a b) (mxK c d) with h | h <;> rw [h]
  · rcases mxK_or a b with h | h <;> simp [h]
  · rcases mxK_or c d with h | h <;> simp [h]
theorem loK_near (ha : near4 a) (hb : near4 b) (hc : near4 c) (hd : near4 d) : near4 (loK a b c d) := mxK_near (mnK_near ha hb) (mnK_near hc hd)
theorem hiK_near (ha : near4 a) (hb : near4 b) (hc : near4 c) (hd : near4 d) : near4 (hiK a b c d) := mnK_near (mxK_near ha hb) (mxK_near hc hd)
/-- On one line: the ends in common are the greater of the lower ends and the lesser of the upper ones. -/
theorem par_com (ha : near4 a) (hb : near4 b) (hc : near4 c) (hdn : near4 d) (hd : cr4 a b c d = 0) (hab : a ≠ b) (hcd : c ≠ d) (h0 : det a b c = 0) (p : Pt) :
    Com a b c d p ↔ key (loK a b c d) ≤ key (hiK a b c d) ∧ (p = loK a b c d ∨ p = hiK a b c d) := by
  obtain ⟨o1, o2, o3, o4⟩ := par_on ha hb hc hdn hd hab hcd h0
  have kab : key a ≠ key b := fun h => hab ((key_inj ha hb).1 h)
  have kcd : key c ≠ key d := fun h => hcd ((key_inj hc hdn).1 h)
  have L : ∀ {q}, near4 q → (q = loK a b c d ↔ key q = key (loK a b c d)) := fun hq => (key_inj hq (loK_near ha hb hc hdn)).symm
  have H : ∀ {q}, near4 q → (q = hiK a b c d ↔ key q = key (hiK a b c d)) := fun hq => (key_inj hq (hiK_near ha hb hc hdn)).symm
  have el : key (loK a b c d) = if (if key b < key a then key b else key a) < (if key d < key c then key d else key c) then (if key d < key c then key d else key c) else (if key b < key a then key b else key a) := by
    unfold loK; rw [mxK_key, mnK_key, mnK_key]
  have eh : key (hiK a b c d) = if (if key c < key d then key d else key c) < (if key a < key b then key b else key a) then (if key c < key d then key d else key c) else (if key a < key b then key b else key a) := by
    unfold hiK; rw [mnK_key, mxK_key, mxK_key]
  rw [com_ends, o1, o2, o3, o4]
  constructor
  · intro h
    rcases h with ⟨rfl, h⟩ | ⟨rfl, h⟩ | ⟨rfl, h⟩ | ⟨rfl, h⟩
    · rw [L ha, H ha]; unfold btw at h
      generalize key p = x at *; generalize key b = y at *; generalize key c = z at *; generalize key d = t at *
      split at el <;> split at el <;> (try split at el) <;> split at eh <;> split at eh <;> (try split at eh) <;> omega
    · rw [L hb, H hb]; unfold btw at h
      generalize key a = x at *; generalize key p = y at *; generalize key c = z at *; generalize key d = t at *
      split at el <;> split at el <;> (try split at el) <;> split at eh <;> split at eh <;> (try split at eh) <;> omega
    · rw [L hc, H hc]; unfold btw at h
      generalize key a = x at *; generalize key b = y at *; generalize key p = z at *; generalize key d = t at *
      split at el <;> split at el <;> (try split at el) <;> split at eh <;> split at eh <;> (try split at eh) <;> omega
    · rw [L hdn, H hdn]; unfold btw at h
      generalize key a = x at *; generalize key b = y at *; generalize key c = z at *; generalize key p = t at *
      split at el <;> split at el <;> (try split at el) <;> split at eh <;> split at eh <;> (try split at eh) <;> omega
  · rintro ⟨hle, hp⟩
    have hpo : p = a ∨ p = b ∨ p = c ∨ p = d := by
      rcases hp with rfl | rfl
      · exact loK_or
      · exact hiK_or
    rcases hpo with rfl | rfl | rfl | rfl
    · rw [L ha, H ha] at hp
      refine .inl ⟨rfl, ?_⟩
      unfold btw
      generalize key p = x at *; generalize key b = y at *; generalize key c = z at *; generalize key d = t at *
      split at el <;> split at el <;> (try split at el) <;> split at eh <;> split at eh <;> (try split at eh) <;> omega
    · rw [L hb, H hb] at hp
      refine .inr (.inl ⟨rfl, ?_⟩)
      unfold btw
      generalize key a = x at *; generalize key p = y at *; generalize key c = z at *; generalize key d = t at *
      split at el <;> split at el <;> (try split at el) <;> split at eh <;> split at eh <;> (try split at eh) <;> omega
    · rw [L hc, H hc] at hp
      refine .inr (.inr (.inl ⟨rfl, ?_⟩))
      unfold btw
      generalize key a = x at *; generalize key b = y at *; generalize key p = z at *; generalize key d = t at *
      split at el <;> split at el <;> (try split at el) <;> split at eh <;> split at eh <;> (try split at eh) <;> omega
    · rw [L hdn, H hdn] at hp
      refine .inr (.inr (.inr ⟨rfl, ?_⟩))
      unfold btw
      generalize key a = x at *; generalize key b = y at *; generalize key c = z at *; generalize key p = t at *
      split at el <;> split at el <;> (try split at el) <;> split at eh <;> split at eh <;> (try split at eh) <;> omega
end
section
variable {a b c d : Pt}
def btwB (x d : Int) : Bool := decide ((0 ≤ x ∧ x ≤ d) ∨ (d ≤ x ∧ x ≤ 0))
def onSB (a b p : Pt) : Bool := (decide (imin a.1 b.1 ≤ p.1) && decide (p.1 ≤ imax a.1 b.1) && decide (imin a.2 b.2 ≤ p.2) && decide (p.2 ≤ imax a.2 b.2)) && decide (det a b p = 0)
theorem onSB_iff {a b p : Pt} : onSB a b p = true ↔ onS a b p := by
  unfold onSB onS inX
  simp only [Bool.and_eq_true, decide_eq_true_eq]
  constructor
  · rintro ⟨⟨⟨⟨h1, h2⟩, h3⟩, h4⟩, h5⟩; exact ⟨⟨h1, h2, h3, h4⟩, h5⟩
  · rintro ⟨⟨h1, h2, h3, h4⟩, h5⟩; exact ⟨⟨⟨⟨h1, h2⟩, h3⟩, h4⟩, h5⟩
def noSeg : Pt × Pt := ((0, 0), (0, 0))
/-- How two segments meet, as the program reckons it: the kind, and what they share. -/
def meetK (a b c d : Pt) : Int × (Pt × Pt) :=
  if cr4 a b c d ≠ 0 then
    (if (btwB (det c d a) (cr4 a b c d) && btwB (-det a b c) (cr4 a b c d)) = true then (if det c d a = 0 ∨ det c d a = cr4 a b c d ∨ det a b c = 0 ∨ -det a b c = cr4 a b c d then 1 else 2) else 0, noSeg)
  else if a = b ∧ onSB c d a = true then (1, noSeg)
  else if c = d ∧ onSB a b c = true then (1, noSeg)
  else if a = b ∨ c = d ∨ det a b c ≠ 0 then (0, noSeg)
  else if key (loK a b c d) = key (hiK a b c d) then (1, noSeg)
  else if key (loK a b c d) < key (hiK a b c d) then (3, (loK a b c d, hiK a b c d))
  else (0, noSeg)
/-- The sides of the ends lie strictly apart, both ways. -/
def Crosses (a b c d : Pt) : Prop := strict (det a b c) (det a b d) ∧ strict (det c d a) (det c d b)
/-- What the kinds say. -/
structure KindIs (a b c d : Pt) (k : Int × (Pt × Pt)) : Prop where
  range : k.1 = 0 ∨ k.1 = 1 ∨ k.1 = 2 ∨ k.1 = 3
  over : k.1 = 3 → (key k.2.1 < key k.2.2 ∧ (near4 k.2.1 ∧ near4 k.2.2)) ∧ ∀ p, Com a b c d p ↔ p = k.2.1 ∨ p = k.2.2
  touch : k.1 = 1 → ∃ p, ∀ q, Com a b c d q ↔ q = p
  cross : k.1 = 2 → (∀ p, ¬ Com a b c d p) ∧ Crosses a b c d
  none : k.1 = 0 → (∀ p, ¬ Com a b c d p) ∧ ¬ Crosses a b c d
theorem strict_zero {x : Int} : ¬ strict 0 x := by unfold strict; omega
theorem strict_same {x : Int} : ¬ strict x x := by unfold strict; omega
theorem meetK_is (ha : near4 a) (hb : near4 b) (hc : near4 c) (hd : near4 d) : KindIs a b c d (meetK a b c d) := by
  unfold meetK
  by_cases h0 : cr4 a b c d ≠ 0
  · rw [if_pos h0]
    have sk := skew_any h0
    have ss := @skew_strict a b c d
    have one : ∀ p q, Com a b c d p → Com a b c d q → p = q := fun p q hp hq => skew_one h0 hp.2.1.2 hp.2.2.2 hq.2.1.2 hq.2.2.2
    have some : (∃ p, Com a b c d p) ↔ (onS c d a ∨ onS c d b ∨ onS a b c ∨ onS a b d) := by
      constructor
      · rintro ⟨p, hp⟩
        rcases com_ends.1 hp with ⟨-, h⟩ | ⟨-, h⟩ | ⟨-, h⟩ | ⟨-, h⟩ <;> simp [h]
      · rintro (h | h | h | h)
        · exact ⟨a, com_ends.2 (.inl ⟨rfl, h⟩)⟩
        · exact ⟨b, com_ends.2 (.inr (.inl ⟨rfl, h⟩))⟩
        · exact ⟨c, com_ends.2 (.inr (.inr (.inl ⟨rfl, h⟩)))⟩
        · exact ⟨d, com_ends.2 (.inr (.inr (.inr ⟨rfl, h⟩)))⟩
    rw [sk] at some
    have hB : (btwB (det c d a) (cr4 a b c d) && btwB (-det a b c) (cr4 a b c d)) = true ↔ (btw (det c d a) (cr4 a b c d) ∧ btw (-det a b c) (cr4 a b c d)) := by
      unfold btwB btw
      simp only [Bool.and_eq_true, decide_eq_true_eq]
    by_cases h1 : (btwB (det c d a) (cr4 a b c d) && btwB (-det a b c) (cr4 a b c d)) = true
    · rw [if_pos h1]
      have h1' := hB.1 h1
      by_cases h2 : det c d a = 0 ∨ det c d a = cr4 a b c d ∨ det a b c = 0 ∨ -det a b c = cr4 a b c d
      · rw [if_pos h2]
        obtain ⟨p, hp⟩ := some.2 ⟨h1', h2⟩
        exact ⟨by simp, by simp, fun _ => ⟨p, fun q => ⟨fun hq => one q p hq hp, fun e => e ▸ hp⟩⟩, by simp, by simp⟩
      · rw [if_neg h2]
        have no : ∀ p, ¬ Com a b c d p := fun p hp => h2 (some.1 ⟨p, hp⟩).2
        exact ⟨by simp, by simp, by simp, fun _ => ⟨no, ss.2 ⟨h1', h2⟩⟩, by simp⟩
    · rw [if_neg h1]
      have h1' : ¬ (btw (det c d a) (cr4 a b c d) ∧ btw (-det a b c) (cr4 a b c d)) := fun h => h1 (hB.2 h)
      exact ⟨by simp, by simp, by simp, by simp, fun _ => ⟨fun p hp => h1' (some.1 ⟨p, hp⟩).1, fun h => h1' (ss.1 h).1⟩⟩
  · rw [if_neg h0]
    have h0' : cr4 a b c d = 0 := by omega
    have e6 := @det_a a b c d
    have e7 := @det_b a b c d
    have noCross : ¬ Crosses a b c d := fun h => by
      have := h.1
      rw [e7, h0', Int.add_zero] at this
      exact strict_same this
    by_cases h1 : a = b ∧ onSB c d a = true
    · rw [if_pos h1]
      obtain ⟨rfl, h1⟩ := h1
      have h1 := onSB_iff.1 h1
      refine ⟨by simp, by simp, fun _ => ⟨a, fun q => ⟨fun hq => on_point.1 hq.2.1, fun e => ?_⟩⟩, by simp, by simp⟩
      subst e
      exact ⟨.inl rfl, on_left _ _, h1⟩
    · rw [if_neg h1]
      by_cases h2 : c = d ∧ onSB a b c = true
      · rw [if_pos h2]
        obtain ⟨rfl, h2⟩ := h2
        have h2 := onSB_iff.1 h2
        refine ⟨by simp, by simp, fun _ => ⟨c, fun q => ⟨fun hq => on_point.1 hq.2.2, fun e => ?_⟩⟩, by simp, by simp⟩
        subst e
        exact ⟨.inr (.inr (.inl rfl)), h2, on_left _ _⟩
      · rw [if_neg h2]
        by_cases h3 : a = b ∨ c = d ∨ det a b c ≠ 0
        · rw [if_pos h3]
          refine ⟨by simp, by simp, by simp, by simp, fun _ => ⟨fun p hp => ?_, noCross⟩⟩
          rcases h3 with rfl | rfl | h3
          · have e := on_point.1 hp.2.1
            subst e
            exact h1 ⟨rfl, onSB_iff.2 hp.2.2⟩
          · have e := on_point.1 hp.2.2
            subst e
            exact h2 ⟨rfl, onSB_iff.2 hp.2.1⟩
          · by_cases hab : a = b
            · subst hab
              have e := on_point.1 hp.2.1
              subst e
              exact h1 ⟨rfl, onSB_iff.2 hp.2.2⟩
            by_cases hcd : c = d
            · subst hcd
              have e := on_point.1 hp.2.2
              subst e
              exact h2 ⟨rfl, onSB_iff.2 hp.2.1⟩
            have k0 : det c d a ≠ 0 := fun h => h3 ((par_off h0' hab hcd).2 h)
            rcases com_ends.1 hp with ⟨-, h⟩ | ⟨-, h⟩ | ⟨-, h⟩ | ⟨-, h⟩
            · exact k0 h.2
            · have := h.2; omega
            · exact h3 h.2
            · have := h.2; omega
        · rw [if_neg h3]
          have hab : a ≠ b := fun h => h3 (.inl h)
          have hcd : c ≠ d := fun h => h3 (.inr (.inl h))
          have hz : det a b c = 0 := Classical.byContradiction fun h => h3 (.inr (.inr h))
          have pc := par_com ha hb hc hd h0' hab hcd hz
          have nl := loK_near ha hb hc hd
          have nh := hiK_near ha hb hc hd
          by_cases h4 : key (loK a b c d) = key (hiK a b c d)
          · rw [if_pos h4]
            have e := (key_inj nl nh).1 h4
            refine ⟨by simp, by simp, fun _ => ⟨loK a b c d, fun q => ?_⟩, by simp, by simp⟩
            rw [pc q, ← e]
            simp
          · rw [if_neg h4]
            by_cases h5 : key (loK a b c d) < key (hiK a b c d)
            · rw [if_pos h5]
              refine ⟨by simp, fun _ => ⟨⟨h5, nl, nh⟩, fun p => ?_⟩, by simp, by simp, by simp⟩
              rw [pc p]
              constructor
              · exact fun h => h.2
              · exact fun h => ⟨by omega, h⟩
            · rw [if_neg h5]
              refine ⟨by simp, by simp, by simp, by simp, fun _ => ⟨fun p hp => ?_, noCross⟩⟩
              have := ((pc p).1 hp).1
              omega
end
end Go.Proofs.YtkpnffokjpgalaaGreat
/- Layer 46 (plain): the greatest common divisor, the steps of an edge, its points, and the place of a point. -/
namespace Go.Proofs.YtkpnffokjpgalaaGreat
set_option linter.unusedVariables false
set_option linter.unusedSimpArgs false

/-- The greatest common divisor, as Go's loop finds it. -/
def gcdI (a b : Int) : Int := (Int.gcd a b : Nat)
theorem gcd_step (a b : Int) : Int.gcd b (a.tmod b) = Int.gcd a b := by
  unfold Int.gcd
  rw [Int.natAbs_tmod, Nat.gcd_comm, ← Nat.gcd_rec, Nat.gcd_comm]
theorem gcd_end (a : Int) : gcdI a 0 = if a < -a then -a else a := by
  unfold gcdI Int.gcd
  simp only [Int.natAbs_zero, Nat.gcd_zero_right]
  split <;> omega
theorem gcd_abs (a b : Int) : gcdI (if 0 ≤ a then a else -a) (if 0 ≤ b then b else -b) = gcdI a b := by
  unfold gcdI Int.gcd
  congr 2 <;> split <;> omega
theorem tmod_lt {a b : Int} (hb : b ≠ 0) : (a.tmod b).natAbs < b.natAbs := by
  rw [Int.natAbs_tmod]
  exact Nat.mod_lt _ (by omega)
def stepsK (a b : Pt) : Int := gcdI (b.1 - a.1) (b.2 - a.2)
def dirK (a b : Pt) : Pt := ((b.1 - a.1).tdiv (stepsK a b), (b.2 - a.2).tdiv (stepsK a b))
def pointK (a b : Pt) (n : Int) : Pt := (a.1 + (dirK a b).1 * n, a.2 + (dirK a b).2 * n)
def placeK (a b p : Pt) : Int := if b.1 - a.1 ≠ 0 then (p.1 - a.1).tdiv (dirK a b).1 else (p.2 - a.2).tdiv (dirK a b).2
section
variable {a b p : Pt}
theorem stepsK_nonneg (a b : Pt) : 0 ≤ stepsK a b := by unfold stepsK gcdI; omega
theorem stepsK_pos (h : a ≠ b) : 0 < stepsK a b := by
  have h0 := stepsK_nonneg a b
  rcases Int.lt_or_eq_of_le h0 with h1 | h1
  · exact h1
  · exfalso
    unfold stepsK gcdI at h1
    have : Int.gcd (b.1 - a.1) (b.2 - a.2) = 0 := by omega
    rw [Int.gcd_eq_zero_iff] at this
    exact h (Prod.ext (by omega) (by omega))
theorem dirK_mul (a b : Pt) : (dirK a b).1 * stepsK a b = b.1 - a.1 ∧ (dirK a b).2 * stepsK a b = b.2 - a.2 := by
  unfold dirK stepsK gcdI
  exact ⟨Int.tdiv_mul_cancel (Int.gcd_dvd_left _ _), Int.tdiv_mul_cancel (Int.gcd_dvd_right _ _)⟩
theorem dirK_prime (h : a ≠ b) : Nat.Coprime (dirK a b).1.natAbs (dirK a b).2.natAbs := by
  obtain ⟨e1, e2⟩ := dirK_mul a b
  have hp := stepsK_pos h
  obtain ⟨g, hg⟩ : ∃ g : Nat, stepsK a b = g := ⟨(stepsK a b).toNat, by omega⟩
  have h1 := congrArg Int.natAbs e1
  have h2 := congrArg Int.natAbs e2
  rw [Int.natAbs_mul, hg, Int.natAbs_natCast] at h1 h2
  have h3 : Nat.gcd (b.1 - a.1).natAbs (b.2 - a.2).natAbs = g := by
    have : stepsK a b = (Nat.gcd (b.1 - a.1).natAbs (b.2 - a.2).natAbs : Nat) := rfl
    omega
  rw [← h1, ← h2, Nat.gcd_mul_right] at h3
  unfold Nat.Coprime
  have hg0 : 0 < g := by omega
  exact Nat.eq_of_mul_eq_mul_right hg0 (by rw [h3, Nat.one_mul])
/-- An integer point of a line lies behind a whole number of steps. -/
theorem line_pt (h : a ≠ b) (h0 : det a b p = 0) : ∃ k : Int, p = pointK a b k := by
  have hg := stepsK_pos h
  obtain ⟨e1, e2⟩ := dirK_mul a b
  have hc := dirK_prime h
  obtain ⟨g, hge⟩ : ∃ g, g = stepsK a b := ⟨_, rfl⟩
  obtain ⟨w, hw⟩ : ∃ w, w = dirK a b := ⟨_, rfl⟩
  rw [← hge] at hg e1 e2
  rw [← hw] at e1 e2 hc
  have hl : w.1 * (p.2 - a.2) = w.2 * (p.1 - a.1) := by
    unfold det at h0
    rw [← e1, ← e2] at h0
    have : g * (w.1 * (p.2 - a.2) - w.2 * (p.1 - a.1)) = 0 := by grind
    have := (Int.mul_eq_zero.1 this).resolve_left (by omega)
    omega
  have key : ∃ k : Int, p.1 - a.1 = w.1 * k ∧ p.2 - a.2 = w.2 * k := by
    by_cases hw1 : w.1 = 0
    · rw [hw1] at hc hl
      have h2 : w.2.natAbs = 1 := by
        unfold Nat.Coprime at hc
        simpa using hc
      have h3 : w.2 = 1 ∨ w.2 = -1 := by omega
      have h4 : p.1 - a.1 = 0 := by
        rcases h3 with h3 | h3 <;> rw [h3] at hl <;> omega
      rcases h3 with h3 | h3
      · exact ⟨p.2 - a.2, by rw [hw1]; omega, by rw [h3]; omega⟩
      · exact ⟨-(p.2 - a.2), by rw [hw1]; omega, by rw [h3]; omega⟩
    · have hd : w.1.natAbs ∣ (p.1 - a.1).natAbs * w.2.natAbs := by
        refine ⟨(p.2 - a.2).natAbs, ?_⟩
        rw [← Int.natAbs_mul, ← Int.natAbs_mul, hl, Int.mul_comm]
      have hd2 := Nat.Coprime.dvd_of_dvd_mul_right hc hd
      obtain ⟨k, hk⟩ := Int.natAbs_dvd_natAbs.1 hd2
      refine ⟨k, hk, ?_⟩
      have : w.1 * (p.2 - a.2 - w.2 * k) = 0 := by rw [hk] at hl; grind
      have := (Int.mul_eq_zero.1 this).resolve_left hw1
      omega
  obtain ⟨k, k1, k2⟩ := key
  refine ⟨k, ?_⟩
  unfold pointK
  rw [← hw]
  exact Prod.ext (by simp only; omega) (by simp only; omega)
theorem on_step (h : a ≠ b) (ho : onS a b p) : ∃ k : Int, (0 ≤ k ∧ k ≤ stepsK a b) ∧ p = pointK a b k := by
  obtain ⟨hx, h0⟩ := ho
  obtain ⟨k, hk⟩ := line_pt h h0
  refine ⟨k, ?_, hk⟩
  have hg := stepsK_pos h
  obtain ⟨e1, e2⟩ := dirK_mul a b
  rw [hk] at hx
  unfold pointK at hx
  generalize stepsK a b = g at *
  generalize dirK a b = w at *
  exact (box_place (n := g) (k := k) hg h (by rw [← e1]; grind) (by rw [← e2]; grind)).1 hx
theorem step_on {k : Int} (h : a ≠ b) (h0 : 0 ≤ k) (h1 : k ≤ stepsK a b) : onS a b (pointK a b k) := by
  have hg := stepsK_pos h
  obtain ⟨e1, e2⟩ := dirK_mul a b
  unfold pointK
  generalize stepsK a b = g at *
  generalize dirK a b = w at *
  refine ⟨(box_place (n := g) (k := k) hg h (by rw [← e1]; grind) (by rw [← e2]; grind)).2 ⟨h0, h1⟩, ?_⟩
  unfold det
  rw [← e1, ← e2]
  grind
theorem place_point {k : Int} (h : a ≠ b) : placeK a b (pointK a b k) = k := by
  have hg := stepsK_pos h
  obtain ⟨e1, e2⟩ := dirK_mul a b
  unfold placeK pointK
  split
  · rename_i h1
    have hw : (dirK a b).1 ≠ 0 := fun hz => h1 (by rw [hz] at e1; omega)
    rw [show a.1 + (dirK a b).1 * k - a.1 = (dirK a b).1 * k by omega]
    exact Int.mul_tdiv_cancel_left _ hw
  · rename_i h1
    have h1 : b.1 - a.1 = 0 := Classical.byContradiction h1
    have hw : (dirK a b).2 ≠ 0 := fun hz => h (Prod.ext (by omega) (by rw [hz] at e2; omega))
    rw [show a.2 + (dirK a b).2 * k - a.2 = (dirK a b).2 * k by omega]
    exact Int.mul_tdiv_cancel_left _ hw
end
end Go.Proofs.YtkpnffokjpgalaaGreat
