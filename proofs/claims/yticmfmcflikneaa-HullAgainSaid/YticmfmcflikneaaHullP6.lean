/- Layer 10 (plain): the hull that begins with its least vertex, by Y and then X; when all points lie on a line. -/
import Derived.Test.YticmfmcflikneaaHullP5
namespace Go.Proofs.Yticmfmcflikneaa
set_option linter.unusedVariables false

theorem mod_two {n x : Nat} (h : x < 2 * n) : x % n = if x < n then x else x - n := by
  split
  · exact Nat.mod_eq_of_lt (by assumption)
  · rw [Nat.mod_eq_sub_mod (by omega), Nat.mod_eq_of_lt (by omega)]
/-- A ring that begins with another vertex. -/
def rotL (k : Nat) (r : List Pt) : List Pt := r.drop k ++ r.take k
theorem rotL_length {k : Nat} {r : List Pt} (hk : k ≤ r.length) : (rotL k r).length = r.length := by
  unfold rotL; rw [List.length_append, List.length_drop, List.length_take]; omega
theorem rot_at {k i : Nat} {r : List Pt} (hk : k < r.length) (hi : i < r.length) : at0 (rotL k r) i = at0 r ((k + i) % r.length) := by
  rw [at0_eq (by rw [rotL_length (by omega)]; exact hi), mod_two (by omega)]
  unfold rotL
  by_cases h : k + i < r.length
  · rw [if_pos h, List.getElem_append_left (by rw [List.length_drop]; omega), List.getElem_drop, at0_eq h]
  · rw [if_neg h, List.getElem_append_right (by rw [List.length_drop]; omega), List.getElem_take, at0_eq (by omega)]
    congr 1
    rw [List.length_drop]; omega
theorem rot_rv {k i : Nat} {r : List Pt} (hk : k < r.length) (hi : i < r.length) : rv (rotL k r) (i + 1) = rv r ((k + i) % r.length + 1) := by
  unfold rv
  rw [rotL_length (by omega), rot_at hk (Nat.mod_lt _ (by omega))]
  congr 1
  rw [mod_two (n := r.length) (x := i + 1) (by omega), mod_two (n := r.length) (x := k + i) (by omega)]
  by_cases h1 : i + 1 < r.length <;> by_cases h2 : k + i < r.length <;> simp only [h1, h2, if_true, if_false] <;>
    (rw [mod_two (by omega), mod_two (by omega)]; split <;> split <;> omega)
theorem IsHull.rot {pts r : List Pt} (h : IsHull pts r) {k : Nat} (hk : k < r.length) : IsHull pts (rotL k r) := by
  have hl := rotL_length (Nat.le_of_lt hk)
  refine ⟨by rw [hl]; exact h.three, fun i m hi hm h1 h2 => ?_, fun i hi q hq => ?_, fun q hq => h.sub q ?_⟩
  · rw [hl] at hi hm h2
    rw [rot_at hk hi, rot_at hk hm, rot_rv hk hi]
    refine h.convex _ _ (Nat.mod_lt _ (by omega)) (Nat.mod_lt _ (by omega)) ?_ ?_
    · rw [mod_two (by omega), mod_two (by omega)]; split <;> split <;> omega
    · intro e
      apply h2
      rw [mod_two (n := r.length) (x := k + m) (by omega), mod_two (n := r.length) (x := k + i) (by omega)] at e
      rw [mod_two (by omega)]
      revert e
      split <;> split <;> (rw [mod_two (by omega)]; split <;> split <;> omega)
  · rw [hl] at hi
    rw [rot_at hk hi, rot_rv hk hi]
    exact h.left _ (Nat.mod_lt _ (by omega)) q hq
  · unfold rotL at hq
    rcases List.mem_append.1 hq with h | h
    · exact List.mem_of_mem_drop h
    · exact List.mem_of_mem_take h
def lexy (p q : Pt) : Prop := p.2 < q.2 ∨ p.2 = q.2 ∧ p.1 < q.1
theorem lexy.asymm {p q : Pt} (h : lexy p q) (h' : lexy q p) : False := by unfold lexy at *; omega
theorem lexy_tri (p q : Pt) : lexy p q ∨ p = q ∨ lexy q p := by
  obtain ⟨a, b⟩ := p
  obtain ⟨c, d⟩ := q
  unfold lexy
  simp only [Prod.mk.injEq]
  omega
theorem lin_lexy {M : Int} {p q : Pt} (hp : -M ≤ p.1 ∧ p.1 ≤ M) (hq : -M ≤ q.1 ∧ q.1 ≤ M) (h : lin 1 (2 * M + 1) p ≤ lin 1 (2 * M + 1) q) : p = q ∨ lexy p q := by
  rcases lexy_tri p q with h1 | h1 | h1
  · exact .inr h1
  · exact .inl h1
  · exfalso
    have : lexlt (q.2, q.1) (p.2, p.1) := h1
    have h2 := lin_lex (M := M) (p := (q.2, q.1)) (q := (p.2, p.1)) hq hp this
    unfold lin at *
    simp only at h2
    omega
/-- A hull and its first vertex, the least one by Y and then X. -/
structure HullY (pts r : List Pt) : Prop where
  hull : IsHull pts r
  first : ∀ q ∈ pts, at0 r 0 = q ∨ lexy (at0 r 0) q
theorem HullY.unique {pts r s : List Pt} (h : HullY pts r) (h' : HullY pts s) : r = s := by
  refine h.hull.unique h'.hull ?_
  have hr := h.hull.three
  have hs := h'.hull.three
  rcases h.first _ (h'.hull.sub _ (at0_mem (i := 0) (by omega))) with e | h1
  · exact e
  · rcases h'.first _ (h.hull.sub _ (at0_mem (i := 0) (by omega))) with e | h2
    · exact e.symm
    · exact (h1.asymm h2).elim
theorem HullY.more {pts pts' r : List Pt} (h : HullY pts r) (h1 : ∀ q ∈ pts', q ∈ pts) (h2 : ∀ v ∈ r, v ∈ pts') : HullY pts' r := ⟨h.hull.more h1 h2, fun q hq => h.first q (h1 q hq)⟩
theorem begin_hull {M : Int} {pts r : List Pt} (hM : ∀ q ∈ pts, -M ≤ q.1 ∧ q.1 ≤ M) (h : IsHull pts r) {k : Nat} (hk : k < r.length) (hl : ∀ j, j < r.length → ¬ lexy (at0 r j) (at0 r k)) : HullY pts (rotL k r) := by
  refine ⟨h.rot hk, fun q hq => ?_⟩
  rw [rot_at hk (by omega), Nat.add_zero, Nat.mod_eq_of_lt hk]
  have hkm := h.sub _ (at0_mem hk)
  obtain ⟨i, hi, hm⟩ := h.least 1 (2 * M + 1)
  have him := h.sub _ (at0_mem hi)
  have e : at0 r i = at0 r k := by
    rcases lin_lexy (hM _ him) (hM _ hkm) (hm _ hkm) with e | e
    · exact e
    · exact absurd e (hl i hi)
  rw [e] at hm
  exact lin_lexy (hM _ hkm) (hM q hq) (hm q hq)
/-- All points lie on a line with the first one. -/
def Line0 (a : Pt) (l : List Pt) : Prop := ∀ u ∈ l, ∀ v ∈ l, u ≠ a → det a u v = 0
theorem line0_all {a : Pt} {l : List Pt} (h : Line0 a l) : ∀ u ∈ l, ∀ v ∈ l, ∀ w ∈ l, det u v w = 0 := by
  have h' : ∀ u ∈ l, ∀ v ∈ l, det a u v = 0 := fun u hu v hv => by
    by_cases e : u = a
    · rw [e]; unfold det; rw [Int.sub_self, Int.sub_self, Int.zero_mul, Int.zero_mul]; rfl
    · exact h u hu v hv e
  intro u hu v hv w hw
  have := det_four a u v w
  rw [h' u hu v hv, h' v hv w hw, h' u hu w hw] at this
  omega
theorem hull_not_line0 {pts r : List Pt} (h : IsHull pts r) (a : Pt) : ¬ Line0 a pts := fun hl => by
  obtain ⟨u, hu, v, hv, w, hw, hne⟩ := HullR.not_line h
  exact hne (line0_all hl u hu v hv w hw)
theorem line0_of {a : Pt} {l : List Pt} (ha : a ∈ l) (h : ∀ u ∈ l, ∀ v ∈ l, ∀ w ∈ l, det u v w = 0) : Line0 a l := fun u hu v hv _ => h a ha u hu v hv
end Go.Proofs.Yticmfmcflikneaa
