/- Layer 10 (plain): the reference's gift wrapping. -/
import Derived.Test.YticmfmcflikneaaHullP6
namespace Go.Proofs.Yticmfmcflikneaa
set_option linter.unusedVariables false

def nrm (p x : Pt) : Int := (x.1 - p.1) * (x.1 - p.1) + (x.2 - p.2) * (x.2 - p.2)
def dotE (p v x : Pt) : Int := (v.1 - p.1) * (x.1 - p.1) + (v.2 - p.2) * (x.2 - p.2)
theorem nrm_nonneg (p x : Pt) : 0 ≤ nrm p x := by
  unfold nrm
  have h1 := sq_nonneg (x.1 - p.1)
  have h2 := sq_nonneg (x.2 - p.2)
  omega
def stepN (p q x : Pt) : Pt := if x = p then q else if q = p then x else if det p q x < 0 ∨ (det p q x = 0 ∧ nrm p q < nrm p x) then x else q
def nextC (l : List Pt) (p : Pt) : Pt := l.foldl (stepN p) p
/-- The next vertex v of p: all lies left, and what lies on the edge lies nearer. -/
structure Ahead (l : List Pt) (p v : Pt) : Prop where
  ne : v ≠ p
  left : ∀ x ∈ l, 0 ≤ det p v x
  near : ∀ x ∈ l, x ≠ v → det p v x = 0 → nrm p x < nrm p v
theorem step_keep {l : List Pt} {p v x : Pt} (h : Ahead l p v) (hx : x ∈ l) : stepN p v x = v := by
  unfold stepN
  split
  · rfl
  · rw [if_neg h.ne]
    split
    · rename_i h0 h1
      have := h.left x hx
      rcases h1 with h1 | ⟨h1, h2⟩
      · omega
      · by_cases e : x = v
        · exact e
        · have := h.near x hx e h1; omega
    · rfl
theorem det_swap2 (p q x : Pt) : det p q x = - det p x q := by unfold det; grind
theorem step_take {l : List Pt} {p v q : Pt} (h : Ahead l p v) (hq : q ∈ l ∨ q = p) : stepN p q v = v := by
  unfold stepN
  rw [if_neg h.ne]
  split
  · rfl
  · rename_i hne
    have hql : q ∈ l := hq.resolve_right hne
    have h1 := h.left q hql
    have h2 := det_swap2 p q v
    split
    · rfl
    · rename_i hc
      by_cases e : q = v
      · exact e
      · exfalso
        apply hc
        by_cases h0 : det p v q = 0
        · exact .inr ⟨by omega, h.near q hql e h0⟩
        · exact .inl (by omega)
theorem step_in {l : List Pt} {p q x : Pt} (hq : q ∈ l ∨ q = p) (hx : x ∈ l) : stepN p q x ∈ l ∨ stepN p q x = p := by
  unfold stepN
  split
  · exact hq
  · split
    · exact .inl hx
    · split
      · exact .inl hx
      · exact hq
theorem fold_ahead {l : List Pt} {p v : Pt} (h : Ahead l p v) : ∀ (m : List Pt) (q : Pt), (∀ x ∈ m, x ∈ l) → (q ∈ l ∨ q = p) → (q = v ∨ v ∈ m) → m.foldl (stepN p) q = v
  | [], q, _, _, hv => by
    rcases hv with e | e
    · exact e
    · cases e
  | x :: m, q, hs, hq, hv => by
    rw [List.foldl_cons]
    refine fold_ahead h m _ (fun y hy => hs y (List.mem_cons_of_mem _ hy)) (step_in hq (hs x (List.mem_cons_self ..))) ?_
    rcases hv with e | e
    · subst e
      exact .inl (step_keep h (hs x (List.mem_cons_self ..)))
    · rcases List.mem_cons.1 e with e | e
      · subst e
        exact .inl (step_take h hq)
      · exact .inr e
theorem next_ahead {l : List Pt} {p v : Pt} (h : Ahead l p v) (hv : v ∈ l) : nextC l p = v :=
  fold_ahead h l p (fun _ hx => hx) (.inr rfl) (.inr hv)
/-- On the line p v, between the edges u p and v w. -/
theorem near_of {u p v w x : Pt} (hne : v ≠ p) (hx : x ≠ v) (h0 : det p v x = 0) (h1 : 0 ≤ det v w x) (c1 : 0 < det v w p) (h2 : 0 ≤ det u p x) (c2 : 0 < det u p v) : nrm p x < nrm p v := by
  have e1 : nrm p v * det v w x = det v w p * (nrm p v - dotE p v x) + (dotE p v w - nrm p v) * det p v x := by unfold nrm det dotE; grind
  have e2 : nrm p v * det u p x = det u p v * dotE p v x - dotE p v u * det p v x := by unfold nrm det dotE; grind
  have e3 : nrm p v * nrm p x = dotE p v x * dotE p v x + det p v x * det p v x := by unfold nrm det dotE; grind
  have e4 : nrm p v * (x.1 - p.1) = dotE p v x * (v.1 - p.1) - (v.2 - p.2) * det p v x := by unfold nrm det dotE; grind
  have e5 : nrm p v * (x.2 - p.2) = dotE p v x * (v.2 - p.2) + (v.1 - p.1) * det p v x := by unfold nrm det dotE; grind
  rw [h0] at e1 e2 e3 e4 e5
  simp only [Int.mul_zero, Int.add_zero, Int.sub_zero] at e1 e2 e3 e4 e5
  have hN : 0 < nrm p v := by
    rcases Int.lt_or_le 0 (nrm p v) with h | h
    · exact h
    · exfalso
      apply hne
      have a1 := sq_nonneg (v.1 - p.1)
      have a2 := sq_nonneg (v.2 - p.2)
      unfold nrm at h
      have b1 : (v.1 - p.1) * (v.1 - p.1) = 0 := by omega
      have b2 : (v.2 - p.2) * (v.2 - p.2) = 0 := by omega
      have d1 := Int.mul_eq_zero.1 b1
      have d2 := Int.mul_eq_zero.1 b2
      exact Prod.ext (by omega) (by omega)
  have s1 : 0 ≤ nrm p v - dotE p v x := nonneg_of_mul c1 (by rw [← e1]; exact Int.mul_nonneg (Int.le_of_lt hN) h1)
  have s0 : 0 ≤ dotE p v x := nonneg_of_mul c2 (by rw [← e2]; exact Int.mul_nonneg (Int.le_of_lt hN) h2)
  generalize dotE p v x = s at *
  generalize nrm p v = N at *
  by_cases hs : s = N
  · exfalso
    apply hx
    subst hs
    have d1 : s * (x.1 - v.1) = 0 := by grind
    have d2 : s * (x.2 - v.2) = 0 := by grind
    have d1 := zero_of_mul hN d1
    have d2 := zero_of_mul hN d2
    exact Prod.ext (by omega) (by omega)
  · have t : 0 < N * (N - nrm p x) := by
      have q1 : 0 < (N - s) * N := Int.mul_pos (by omega) hN
      have q2 : 0 ≤ (N - s) * s := Int.mul_nonneg (by omega) s0
      grind
    have := pos_of_mul hN t
    omega
theorem hull_ahead {l r : List Pt} (h : IsHull l r) {i : Nat} (hi : i < r.length) : Ahead l (at0 r i) (rv r (i + 1)) := by
  have h3 := h.three
  have hm1 : (i + 1) % r.length = if i + 1 < r.length then i + 1 else i + 1 - r.length := mod_two (by omega)
  obtain ⟨j, hj, hji⟩ : ∃ j, j < r.length ∧ (j + 1) % r.length = i := by
    by_cases h0 : i = 0
    · exact ⟨r.length - 1, by omega, by rw [show r.length - 1 + 1 = r.length by omega, Nat.mod_self, h0]⟩
    · exact ⟨i - 1, by omega, by rw [show i - 1 + 1 = i by omega, Nat.mod_eq_of_lt hi]⟩
  have hjm : (j + 1) % r.length = if j + 1 < r.length then j + 1 else j + 1 - r.length := mod_two (by omega)
  have hrj : rv r (j + 1) = at0 r i := by unfold rv; rw [hji]
  obtain ⟨i1, hi1⟩ : ∃ i1, i1 = (i + 1) % r.length := ⟨_, rfl⟩
  have hlt1 : i1 < r.length := by rw [hi1]; exact Nat.mod_lt _ (by omega)
  have hr1 : rv r (i + 1) = at0 r i1 := by unfold rv; rw [hi1]
  have hm2 : (i1 + 1) % r.length = if i1 + 1 < r.length then i1 + 1 else i1 + 1 - r.length := mod_two (by omega)
  rw [← hi1] at hm1
  have hi1i : i1 ≠ i := by split at hm1 <;> omega
  have c1 : 0 < det (at0 r i1) (rv r (i1 + 1)) (at0 r i) := h.convex i1 i hlt1 hi (fun e => hi1i e.symm) (by rw [hm2]; split <;> split at hm1 <;> omega)
  have c2 : 0 < det (at0 r j) (rv r (j + 1)) (at0 r i1) := h.convex j i1 hj hlt1 (by rw [hji] at hjm; split at hjm <;> split at hm1 <;> omega) (by rw [hji]; exact hi1i)
  rw [hrj] at c2
  have hne : at0 r i1 ≠ at0 r i := fun e => by rw [e, det_self] at c1; omega
  rw [hr1]
  refine ⟨hne, fun x hx => ?_, fun x hx hxv h0 => ?_⟩
  · have := h.left i hi x hx
    rw [hr1] at this
    exact this
  · have l1 := h.left i1 hlt1 x hx
    have l2 := h.left j hj x hx
    rw [hrj] at l2
    exact near_of hne hxv h0 l1 c1 l2 c2
theorem rv_mem {r : List Pt} {i : Nat} (h : 0 < r.length) : rv r i ∈ r := by
  unfold rv
  rw [at0_eq (Nat.mod_lt _ h)]
  exact List.getElem_mem _
theorem next_hull {l r : List Pt} (h : IsHull l r) {i : Nat} (hi : i < r.length) : nextC l (at0 r i) = rv r (i + 1) :=
  next_ahead (hull_ahead h hi) (h.sub _ (rv_mem (by omega)))
/-- The vertices differ from the first. -/
theorem at_ne_first {l r : List Pt} (h : IsHull l r) {k : Nat} (hk : k < r.length) (h0 : k ≠ 0) : at0 r k ≠ at0 r 0 := by
  have h3 := h.three
  intro e
  by_cases h1 : k = 1
  · subst h1
    have c := h.convex 0 2 (by omega) (by omega) (by omega) (by rw [Nat.mod_eq_of_lt (by omega)]; omega)
    rw [show rv r (0 + 1) = at0 r 1 from by unfold rv; rw [Nat.mod_eq_of_lt (by omega)], e, det_same] at c
    omega
  · have c := h.convex 0 k (by omega) hk h0 (by rw [Nat.mod_eq_of_lt (by omega)]; omega)
    rw [e, det_self] at c
    omega
end Go.Proofs.Yticmfmcflikneaa
