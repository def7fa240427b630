/- Convex chains as paths; the ring out of a lower and an upper chain. No program here. -/
import Derived.Test.YticmfmcflikneaaHullP
namespace Go.Proofs.Yticmfmcflikneaa
set_option linter.unusedVariables false

def at0 (c : List Pt) (i : Nat) : Pt := c.getD i (0, 0)
theorem at0_eq {c : List Pt} {i : Nat} (h : i < c.length) : at0 c i = c[i] := by
  unfold at0; rw [List.getD_eq_getElem?_getD, List.getElem?_eq_getElem h, Option.getD_some]
theorem at0_mem {c : List Pt} {i : Nat} (h : i < c.length) : at0 c i ∈ c := by rw [at0_eq h]; exact List.getElem_mem h

theorem TurnsC.skip2 {k l : Int} {p b : Pt} : ∀ {a : Pt} {s}, DecC k l (p :: b :: a :: s) → TurnsC (p :: b :: a :: s) → TurnsC (p :: b :: s) ∧ DecC k l (p :: b :: s)
  | a, [], hd, _ => ⟨trivial, hd.1, trivial⟩
  | a, z :: s, ⟨h1, h2, h3, h4⟩, ⟨t1, t2, t3⟩ => ⟨⟨(turn_skip h2 h3 h1 t2 t1).2, (TurnsC.skip (k := k) (l := l) (p := b) (b := a) (s := z :: s) ⟨h2, h3, h4⟩ ⟨t2, t3⟩).1⟩, h1, Int.lt_trans h3 h2, h4⟩
theorem turns_one {k l : Int} {p b : Pt} : ∀ {s}, DecC k l (p :: b :: s) → TurnsC (p :: b :: s) → ∀ j, j < s.length → 0 < det (at0 s j) b p
  | [], _, _, j, hj => by simp at hj
  | a :: s, hd, ht, 0, _ => ht.1
  | a :: s, hd, ht, j + 1, hj => turns_one (TurnsC.skip2 hd ht).2 (TurnsC.skip2 hd ht).1 j (by simpa using hj)
theorem turns_two {k l : Int} {p : Pt} : ∀ {s}, DecC k l (p :: s) → TurnsC (p :: s) → ∀ i j, i < j → j < s.length → 0 < det (at0 s j) (at0 s i) p
  | [], _, _, i, j, _, hj => by simp at hj
  | b :: s, hd, ht, 0, j + 1, _, hj => turns_one hd ht j (by simpa using hj)
  | b :: s, hd, ht, i + 1, j + 1, h, hj => turns_two (TurnsC.skip hd ht).2 (TurnsC.skip hd ht).1 i j (by omega) (by simpa using hj)
theorem turns_all {k l : Int} : ∀ {s}, DecC k l s → TurnsC s → ∀ i j m, i < j → j < m → m < s.length → 0 < det (at0 s m) (at0 s j) (at0 s i)
  | [], _, _, i, j, m, _, _, hm => by simp at hm
  | p :: s, hd, ht, 0, j + 1, m + 1, h1, h2, hm => turns_two hd ht j m (by omega) (by simpa using hm)
  | p :: s, hd, ht, i + 1, j + 1, m + 1, h1, h2, hm => turns_all (s := s) hd.tail ht.tail i j m (by omega) (by omega) (by simpa using hm)
theorem EdgesC.at_ {P : Pt → Pt → Prop} : ∀ {s}, EdgesC P s → ∀ i, i + 1 < s.length → P (at0 s (i + 1)) (at0 s i)
  | [], _, i, h => by simp at h
  | [_], _, i, h => by simp at h
  | b :: a :: s, h, 0, _ => h.1
  | b :: a :: s, h, i + 1, hi => EdgesC.at_ (s := a :: s) h.2 i (by simpa using hi)

/-- A path of points that turns left, everything on its left side. -/
structure Chain (k l : Int) (pts c : List Pt) : Prop where
  asc : ∀ i, i + 1 < c.length → lin k l (at0 c i) < lin k l (at0 c (i + 1))
  strict : ∀ i j m, i < j → j < m → m < c.length → 0 < det (at0 c i) (at0 c j) (at0 c m)
  left : ∀ i, i + 1 < c.length → ∀ q ∈ pts, 0 ≤ det (at0 c i) (at0 c (i + 1)) q
  sub : ∀ q ∈ c, q ∈ pts
theorem at0_reverse {s : List Pt} {i : Nat} (h : i < s.length) : at0 s.reverse i = at0 s (s.length - 1 - i) := by
  rw [at0_eq (by simpa using h), at0_eq (by omega), List.getElem_reverse]
theorem StackC.chain {k l : Int} {pts s : List Pt} (h : StackC k l pts s) : Chain k l pts s.reverse := by
  refine ⟨fun i hi => ?_, fun i j m hij hjm hm => ?_, fun i hi q hq => ?_, fun q hq => h.sub q (by simpa using hq)⟩
  · rw [List.length_reverse] at hi
    rw [at0_reverse (by omega), at0_reverse (by omega)]
    have := h.dec.at_ (s.length - 1 - (i + 1)) (by omega)
    rwa [show s.length - 1 - (i + 1) + 1 = s.length - 1 - i by omega] at this
  · rw [List.length_reverse] at hm
    rw [at0_reverse (by omega), at0_reverse (by omega), at0_reverse (by omega)]
    exact turns_all h.dec h.turns _ _ _ (by omega) (by omega) (by omega)
  · rw [List.length_reverse] at hi
    rw [at0_reverse (by omega), at0_reverse (by omega)]
    have := h.left.at_ (s.length - 1 - (i + 1)) (by omega) q hq
    rwa [show s.length - 1 - (i + 1) + 1 = s.length - 1 - i by omega] at this

/-- A corner lies on no edge of the opposite chain. -/
theorem corner_off {k l : Int} {x y a q b : Pt} (hxy : lin k l x < lin k l y) (h1 : lin k l b < lin k l q) (h2 : lin k l q < lin k l a) (ht : 0 < det a q b)
    (hax : 0 ≤ det a q x) (hbx : 0 ≤ det q b x) (hay : 0 ≤ det a q y) (hby : 0 ≤ det q b y) (ga : 0 ≤ det x y a) (gq : 0 ≤ det x y q) (gb : 0 ≤ det x y b) : 0 < det x y q := by
  rcases Int.lt_or_le 0 (det x y q) with h | h
  · exact h
  · exfalso
    have g0 : det x y q = 0 := by omega
    rcases Int.lt_or_le 0 (det x y b) with hb | hb
    · rcases Int.lt_or_le 0 (det x y a) with ha | ha
      · have ex : det a q b * det x y x = det a q x * (det x y b) + det q b x * (det x y a) + det x y q * (det a q b - det a q x - det q b x) := by unfold det; grind
        have ey : det a q b * det x y y = det a q y * (det x y b) + det q b y * (det x y a) + det x y q * (det a q b - det a q y - det q b y) := by unfold det; grind
        rw [det_self, g0] at ex
        rw [det_end, g0] at ey
        have m1 := Int.mul_nonneg hax (Int.le_of_lt hb)
        have m2 := Int.mul_nonneg hbx (Int.le_of_lt ha)
        have m3 := Int.mul_nonneg hay (Int.le_of_lt hb)
        have m4 := Int.mul_nonneg hby (Int.le_of_lt ha)
        have z1 : det x y b * det a q x = 0 := by rw [Int.mul_comm]; omega
        have z2 : det x y a * det q b x = 0 := by rw [Int.mul_comm]; omega
        have z3 : det x y b * det a q y = 0 := by rw [Int.mul_comm]; omega
        have z4 : det x y a * det q b y = 0 := by rw [Int.mul_comm]; omega
        have y1 := zero_of_mul hb z1
        have y2 := zero_of_mul ha z2
        have y3 := zero_of_mul hb z3
        have y4 := zero_of_mul ha z4
        have e : det a q b * (lin k l y - lin k l x) = (det a q y - det a q x) * (lin k l b - lin k l q) + (det q b y - det q b x) * (lin k l a - lin k l q) := by unfold det lin; grind
        rw [y1, y2, y3, y4] at e
        have := Int.mul_pos ht (show 0 < lin k l y - lin k l x by omega)
        omega
      · have ga0 : det x y a = 0 := by omega
        have e : (lin k l y - lin k l x) * det a q b = (lin k l q - lin k l a) * (det x y b) + (lin k l a - lin k l b) * det x y q + (lin k l b - lin k l q) * det x y a := by unfold det lin; grind
        rw [g0, ga0] at e
        have m1 := Int.mul_pos (show 0 < lin k l y - lin k l x by omega) ht
        have m2 : (lin k l q - lin k l a) * det x y b ≤ 0 := Int.mul_nonpos_of_nonpos_of_nonneg (by omega) gb
        omega
    · have gb0 : det x y b = 0 := by omega
      have e : (lin k l y - lin k l x) * det a q b = (lin k l q - lin k l a) * (det x y b) + (lin k l a - lin k l b) * det x y q + (lin k l b - lin k l q) * det x y a := by unfold det lin; grind
      rw [g0, gb0] at e
      have m1 := Int.mul_pos (show 0 < lin k l y - lin k l x by omega) ht
      have m2 : (lin k l b - lin k l q) * det x y a ≤ 0 := Int.mul_nonpos_of_nonpos_of_nonneg (by omega) ga
      omega
end Go.Proofs.Yticmfmcflikneaa
