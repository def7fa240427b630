/- The vertex behind a vertex is found by turning; a hull is determined by its points and its first vertex. No program here. -/
import Derived.Test.YticmfmcflikneaaHullP3
namespace Go.Proofs.Yticmfmcflikneaa
set_option linter.unusedVariables false

theorem sq_nonneg (a : Int) : 0 ≤ a * a := by
  rcases Int.lt_or_le a 0 with h | h
  · have := Int.mul_nonneg (a := -a) (b := -a) (by omega) (by omega); rwa [Int.neg_mul_neg] at this
  · exact Int.mul_nonneg h h
def dd (a q : Pt) : Int := (q.1 - a.1) * (q.1 - a.1) + (q.2 - a.2) * (q.2 - a.2)
theorem IsHull.next_ne {pts r : List Pt} (h : IsHull pts r) {i : Nat} (hi : i < r.length) : at0 r i ≠ rv r (i + 1) := by
  obtain ⟨j, hj, e, hc, -, -⟩ := h.corner hi
  intro he
  rw [← he, det_end] at hc
  omega
theorem IsHull.distinct {pts r : List Pt} (h : IsHull pts r) {i k : Nat} (hi : i < r.length) (hk : k < r.length) (hne : i ≠ k) : at0 r i ≠ at0 r k := by
  intro he
  by_cases h1 : k = (i + 1) % r.length
  · apply h.next_ne hi
    unfold rv; rw [← h1]; exact he
  · have := h.convex i k hi hk (Ne.symm hne) h1
    rw [← he, det_self] at this
    omega
/-- A point on an edge: its far end, or less far. -/
theorem IsHull.on_edge {pts r : List Pt} (h : IsHull pts r) {i : Nat} (hi : i < r.length) {q : Pt} (hq : q ∈ pts) (h0 : det (at0 r i) (rv r (i + 1)) q = 0) : q = rv r (i + 1) ∨ dd (at0 r i) q < dd (at0 r i) (rv r (i + 1)) := by
  have h3 := h.three
  obtain ⟨j, hj, -, hA, hl, -⟩ := h.corner hi
  have hn : (i + 1) % r.length < r.length := Nat.mod_lt _ (by omega)
  have hB : 0 < det (rv r (i + 1)) (rv r ((i + 1) % r.length + 1)) (at0 r i) := by
    refine h.convex _ i hn hi ?_ ?_
    · intro e; exact h.next_ne hi (by unfold rv; rw [← e])
    · intro e
      rcases Nat.lt_or_ge (i + 1) r.length with h1 | h1
      · rw [Nat.mod_eq_of_lt h1] at e
        rcases Nat.lt_or_ge (i + 1 + 1) r.length with h2 | h2
        · rw [Nat.mod_eq_of_lt h2] at e; omega
        · have : i + 1 + 1 = r.length := by omega
          rw [this, Nat.mod_self] at e; omega
      · have : i + 1 = r.length := by omega
        rw [this, Nat.mod_self, Nat.mod_eq_of_lt (by omega)] at e; omega
  have ha := hl q hq
  have hb := h.left _ hn q hq
  have hne := h.next_ne hi
  rw [show at0 r ((i + 1) % r.length) = rv r (i + 1) from rfl] at hb
  generalize rv r ((i + 1) % r.length + 1) = M at *
  generalize rv r (i + 1) = N at *
  generalize at0 r i = P at *
  generalize at0 r j = L at *
  clear hl hn h3
  have e1 : det L P N * (q.1 - P.1) = det L P q * (N.1 - P.1) := by
    have : det L P N * (q.1 - P.1) - det L P q * (N.1 - P.1) = (L.1 - P.1) * det P N q := by unfold det; grind
    rw [h0] at this; simp at this; omega
  have e2 : det L P N * (q.2 - P.2) = det L P q * (N.2 - P.2) := by
    have : det L P N * (q.2 - P.2) - det L P q * (N.2 - P.2) = (L.2 - P.2) * det P N q := by unfold det; grind
    rw [h0] at this; simp at this; omega
  have f1 : det N M P * (q.1 - N.1) = det N M q * (P.1 - N.1) := by
    have : det N M P * (q.1 - N.1) - det N M q * (P.1 - N.1) = (M.1 - N.1) * det P N q := by unfold det; grind
    rw [h0] at this; simp at this; omega
  have f2 : det N M P * (q.2 - N.2) = det N M q * (P.2 - N.2) := by
    have : det N M P * (q.2 - N.2) - det N M q * (P.2 - N.2) = (M.2 - N.2) * det P N q := by unfold det; grind
    rw [h0] at this; simp at this; omega
  generalize det L P N = A at *
  generalize det L P q = a at *
  generalize det N M P = B at *
  generalize det N M q = b at *
  have g1 : (B * (a - A) + A * b) * (N.1 - P.1) = 0 := by grind
  have g2 : (B * (a - A) + A * b) * (N.2 - P.2) = 0 := by grind
  have hz : B * (a - A) + A * b = 0 := by
    rcases Int.mul_eq_zero.1 g1 with h | h
    · exact h
    · rcases Int.mul_eq_zero.1 g2 with h' | h'
      · exact h'
      · exact absurd (Prod.ext (by omega) (by omega) : P = N) hne
  have hle : a ≤ A := by
    rcases Int.lt_or_le A a with hlt | hle
    · have m1 := Int.mul_pos hB (show 0 < a - A by omega)
      have m2 := Int.mul_nonneg (Int.le_of_lt hA) hb
      omega
    · exact hle
  rcases Int.lt_or_le a A with hlt | hge
  · right
    have hdd : 0 < dd P N := by
      unfold dd
      rcases Int.lt_or_le 0 ((N.1 - P.1) * (N.1 - P.1)) with h | h
      · have := sq_nonneg (N.2 - P.2)
        omega
      · have h1 := sq_nonneg (N.1 - P.1)
        have h2 := sq_nonneg (N.2 - P.2)
        have z1 : (N.1 - P.1) * (N.1 - P.1) = 0 := by omega
        rcases Int.lt_or_le 0 ((N.2 - P.2) * (N.2 - P.2)) with h' | h'
        · omega
        · have z2 : (N.2 - P.2) * (N.2 - P.2) = 0 := by omega
          have y1 : N.1 - P.1 = 0 := by rcases Int.mul_eq_zero.1 z1 with h | h <;> exact h
          have y2 : N.2 - P.2 = 0 := by rcases Int.mul_eq_zero.1 z2 with h | h <;> exact h
          exact absurd (Prod.ext (by omega) (by omega) : P = N) hne
    have e : A * A * dd P q = a * a * dd P N := by unfold dd; grind
    have hAA : a * a < A * A := by
      have : 0 < (A - a) * (A + a) := Int.mul_pos (by omega) (by omega)
      have e : (A - a) * (A + a) = A * A - a * a := by grind
      omega
    have m := Int.mul_pos (show 0 < A * A - a * a by omega) hdd
    have e' : (A * A - a * a) * dd P N = A * A * (dd P N - dd P q) := by grind
    rw [e'] at m
    have := pos_of_mul (Int.mul_pos hA hA) m
    omega
  · left
    have hAa : a = A := by omega
    subst hAa
    have y1 : q.1 - P.1 = N.1 - P.1 := Int.eq_of_mul_eq_mul_left (Int.ne_of_gt hA) e1
    have y2 : q.2 - P.2 = N.2 - P.2 := Int.eq_of_mul_eq_mul_left (Int.ne_of_gt hA) e2
    exact Prod.ext (by omega) (by omega)

/-- One step of the search for the next vertex. -/
def nextStep (p q x : Pt) : Pt := if x = p then q else if q = p then x else if det p q x < 0 ∨ det p q x = 0 ∧ dd p q < dd p x then x else q
def nextF (l : List Pt) (p : Pt) : Pt := l.foldl (nextStep p) p
theorem IsHull.step_keep {pts r : List Pt} (h : IsHull pts r) {i : Nat} (hi : i < r.length) {x : Pt} (hx : x ∈ pts) : nextStep (at0 r i) (rv r (i + 1)) x = rv r (i + 1) := by
  unfold nextStep
  have hne := h.next_ne hi
  have hl := h.left i hi x hx
  by_cases h1 : x = at0 r i
  · rw [if_pos h1]
  · rw [if_neg h1, if_neg (Ne.symm hne)]
    split
    · rename_i hc
      rcases hc with hc | ⟨hc, hd⟩
      · omega
      · rcases h.on_edge hi hx hc with h2 | h2
        · exact h2
        · omega
    · rfl
theorem IsHull.step_find {pts r : List Pt} (h : IsHull pts r) {i : Nat} (hi : i < r.length) {q : Pt} (hq : q ∈ pts) : nextStep (at0 r i) q (rv r (i + 1)) = rv r (i + 1) := by
  unfold nextStep
  have hne := h.next_ne hi
  rw [if_neg (Ne.symm hne)]
  by_cases h1 : q = at0 r i
  · rw [if_pos h1]
  · rw [if_neg h1]
    have hl := h.left i hi q hq
    have e : det (at0 r i) q (rv r (i + 1)) = -det (at0 r i) (rv r (i + 1)) q := by unfold det; grind
    split
    · rfl
    · rename_i hc
      rw [e] at hc
      by_cases h2 : det (at0 r i) (rv r (i + 1)) q = 0
      · rcases h.on_edge hi hq h2 with h3 | h3
        · exact h3
        · exact absurd (Or.inr ⟨by omega, h3⟩) hc
      · exact absurd (Or.inl (by omega)) hc
theorem nextStep_mem {pts : List Pt} {p q x : Pt} (hq : q ∈ pts) (hx : x ∈ pts) : nextStep p q x ∈ pts := by
  unfold nextStep; split
  · exact hq
  · split
    · exact hx
    · split <;> assumption
theorem IsHull.fold_next {pts r : List Pt} (h : IsHull pts r) {i : Nat} (hi : i < r.length) : ∀ (l : List Pt) (q : Pt), (∀ x ∈ l, x ∈ pts) → q ∈ pts → (rv r (i + 1) ∈ l ∨ q = rv r (i + 1)) → l.foldl (nextStep (at0 r i)) q = rv r (i + 1)
  | [], q, _, _, hm => by simpa using hm
  | x :: l, q, hl, hq, hm => by
    rw [List.foldl_cons]
    refine h.fold_next hi l _ (fun y hy => hl y (List.mem_cons_of_mem _ hy)) (nextStep_mem hq (hl x (by simp))) ?_
    rcases hm with hm | rfl
    · rcases List.mem_cons.1 hm with rfl | hm
      · right; exact h.step_find hi hq
      · left; exact hm
    · right; exact h.step_keep hi (hl x (by simp))
theorem IsHull.next {pts r : List Pt} (h : IsHull pts r) {i : Nat} (hi : i < r.length) : nextF pts (at0 r i) = rv r (i + 1) :=
  h.fold_next hi pts _ (fun x hx => hx) (h.sub _ (at0_mem hi)) (.inl (h.sub _ (at0_mem (Nat.mod_lt _ (by have := h.three; omega)))))
theorem IsHull.next' {pts r : List Pt} (h : IsHull pts r) (i : Nat) : nextF pts (rv r i) = rv r (i + 1) := by
  have h3 := h.three
  have hi : i % r.length < r.length := Nat.mod_lt _ (by omega)
  have := h.next hi
  unfold rv at this ⊢
  rw [this, Nat.mod_add_mod]
/-- Two hulls of the same points with the same first vertex are the same. -/
theorem IsHull.unique {pts r s : List Pt} (h : IsHull pts r) (h' : IsHull pts s) (h0 : at0 r 0 = at0 s 0) : r = s := by
  have e : ∀ i, rv r i = rv s i := fun i => by
    induction i with
    | zero => unfold rv; simpa using h0
    | succ i ih => rw [← h.next', ← h'.next', ih]
  have hr := h.three
  have hs := h'.three
  have hlen : r.length = s.length := by
    rcases Nat.lt_trichotomy r.length s.length with hlt | heq | hlt
    · exfalso
      have e1 := e r.length
      unfold rv at e1
      rw [Nat.mod_self, Nat.mod_eq_of_lt hlt, h0] at e1
      exact h'.distinct (by omega) hlt (by omega) e1
    · exact heq
    · exfalso
      have e1 := e s.length
      unfold rv at e1
      rw [Nat.mod_self, Nat.mod_eq_of_lt hlt, ← h0] at e1
      exact h.distinct hlt (by omega) (by omega) e1
  refine List.ext_getElem hlen fun i h1 h2 => ?_
  have := e i
  unfold rv at this
  rw [Nat.mod_eq_of_lt h1, Nat.mod_eq_of_lt h2, at0_eq h1, at0_eq h2] at this
  exact this
/-- Turned round, a hull stays one. -/
theorem IsHull.more {pts pts' r : List Pt} (h : IsHull pts r) (h1 : ∀ q ∈ pts', q ∈ pts) (h2 : ∀ v ∈ r, v ∈ pts') : IsHull pts' r :=
  ⟨h.three, h.convex, fun i hi q hq => h.left i hi q (h1 q hq), h2⟩
end Go.Proofs.Yticmfmcflikneaa
