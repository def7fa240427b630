/- Layer 15 (plain): what Valid asks is convexity. -/
import Derived.Test.YtbienlhofkfdpaaMinkP1
namespace Go.Proofs.Ytbienlhofkfdpaa
set_option linter.unusedVariables false

def crs (a b : Pt) : Int := a.1 * b.2 - a.2 * b.1
def subP (a b : Pt) : Pt := (a.1 - b.1, a.2 - b.2)
def addP (a b : Pt) : Pt := (a.1 + b.1, a.2 + b.2)
theorem det_crs (a b c : Pt) : det a b c = crs (subP b a) (subP c b) := by unfold det crs subP; grind
/-- A direction of the first half turn. -/
def upB (d : Pt) : Bool := decide (0 < d.2) || (decide (d.2 = 0) && decide (0 < d.1))
theorem upB_lexy {p q : Pt} : upB (subP q p) = true ↔ lexy p q := by
  unfold upB subP lexy
  simp only [Bool.or_eq_true, Bool.and_eq_true, decide_eq_true_eq]
  omega
theorem lexy_lin {p q : Pt} (hp : near 20000 p) (hq : near 20000 q) (h : lexy p q) : lin 1 40001 p < lin 1 40001 q := by
  unfold near at hp hq
  unfold lexy at h
  unfold lin
  omega
theorem lin_lexy' {p q : Pt} (hp : near 20000 p) (hq : near 20000 q) (h : lin 1 40001 p ≤ lin 1 40001 q) : p = q ∨ lexy p q :=
  lin_lexy (M := 20000) hp.1 hq.1 h
def edgeV (r : List Pt) (i : Nat) : Pt := subP (rv r (i + 1)) (rv r i)
theorem rv_lt {r : List Pt} {i : Nat} (h : i < r.length) : rv r i = at0 r i := by unfold rv; rw [Nat.mod_eq_of_lt h]
theorem rv_add (r : List Pt) (i : Nat) : rv r (i + r.length) = rv r i := by unfold rv; rw [Nat.add_mod_right]
/-- Here a lower direction is followed by an upper one. -/
def turnAt (r : List Pt) (i : Nat) : Bool := !upB (edgeV r i) && upB (edgeV r (i + 1))
def leftAt (r : List Pt) (i : Nat) : Bool := decide (0 < crs (edgeV r i) (edgeV r (i + 1)))
def turns (r : List Pt) (n : Nat) : Nat := ((List.range n).filter (turnAt r)).length
theorem turns_succ (r : List Pt) (n : Nat) : turns r (n + 1) = turns r n + (if turnAt r n then 1 else 0) := by
  unfold turns
  rw [List.range_succ, List.filter_append, List.length_append]
  congr 1
  by_cases h : turnAt r n = true
  · rw [if_pos h, List.filter_cons_of_pos h]; rfl
  · rw [if_neg h, List.filter_cons_of_neg h]; rfl
theorem leftAt_det {r : List Pt} {i : Nat} : leftAt r i = true ↔ 0 < det (rv r i) (rv r (i + 1)) (rv r (i + 2)) := by
  unfold leftAt
  rw [decide_eq_true_eq, det_crs]
  rfl
theorem one_of_filter {p : Nat → Bool} {n : Nat} (h : ((List.range n).filter p).length = 1) : ∃ k, k < n ∧ p k = true ∧ ∀ i, i < n → p i = true → i = k := by
  obtain ⟨k, hk⟩ := List.length_eq_one_iff.1 h
  have hm : ∀ i, i ∈ (List.range n).filter p ↔ i = k := fun i => by rw [hk, List.mem_singleton]
  have := (hm k).2 rfl
  rw [List.mem_filter, List.mem_range] at this
  exact ⟨k, this.1, this.2, fun i hi hp => (hm i).1 (List.mem_filter.2 ⟨List.mem_range.2 hi, hp⟩)⟩
theorem filter_one {p : Nat → Bool} {n k : Nat} (hk : k < n) (hp : p k = true) (hu : ∀ i, i < n → p i = true → i = k) : ((List.range n).filter p).length = 1 := by
  have h1 : ((List.range n).filter p).length ≤ 1 := nodup_le (m := [k]) (List.Nodup.sublist List.filter_sublist List.nodup_range) (fun x hx => by
    rw [List.mem_filter, List.mem_range] at hx
    rw [hu x hx.1 hx.2]
    simp)
  have h2 : 0 < ((List.range n).filter p).length := List.length_pos_of_mem (List.mem_filter.2 ⟨List.mem_range.2 hk, hp⟩)
  omega
theorem rot_rv' {r : List Pt} {k : Nat} (hk : k < r.length) (i : Nat) : rv (rotL k r) i = rv r (k + i) := by
  have hl := rotL_length (r := r) (Nat.le_of_lt hk)
  unfold rv
  rw [hl, rot_at hk (Nat.mod_lt _ (by omega)), Nat.add_mod_mod]
theorem edge_ne {a b : Pt} (h : upB (subP b a) = false) (h2 : a ≠ b) : lexy b a := by
  rcases lexy_tri a b with q | q | q
  · rw [upB_lexy.2 q] at h; cases h
  · exact absurd q h2
  · exact q
/-- Left turns at every vertex and one change from down to up: convex. -/
theorem turns_convex {r : List Pt} (h3 : 3 ≤ r.length) (hn : ∀ p ∈ r, near 20000 p) (hl : ∀ i, i < r.length → leftAt r i = true) (ht : turns r r.length = 1) :
    ∃ k, k < r.length ∧ IsHull (rotL k r) (rotL k r) ∧ (∀ q ∈ r, at0 (rotL k r) 0 = q ∨ lexy (at0 (rotL k r) 0) q) := by
  obtain ⟨i0, hi0, hp0, hu⟩ := one_of_filter ht
  have hper : ∀ i, edgeV r (i + r.length) = edgeV r i := fun i => by
    unfold edgeV
    rw [show i + r.length + 1 = (i + 1) + r.length by omega, rv_add, rv_add]
  have hl' : ∀ i, leftAt r i = true := fun i => by
    have h := hl (i % r.length) (Nat.mod_lt _ (by omega))
    have e : ∀ j, edgeV r (i % r.length + j) = edgeV r (i + j) := fun j => by
      have : i + j = (i % r.length + j) + (i / r.length) * r.length := by have := Nat.mod_add_div i r.length; rw [Nat.mul_comm] at this; omega
      rw [this]
      generalize i / r.length = c
      induction c with
      | zero => rw [Nat.zero_mul, Nat.add_zero]
      | succ c ih => rw [Nat.succ_mul, ← Nat.add_assoc, hper]; exact ih
    unfold leftAt at *
    rw [e 1, show edgeV r (i % r.length) = edgeV r i from e 0] at h
    exact h
  have hdist : ∀ i, rv r i ≠ rv r (i + 1) := fun i e => by
    have := leftAt_det.1 (hl' i)
    rw [e, det_same] at this
    omega
  have hk : (i0 + 1) % r.length < r.length := Nat.mod_lt _ (by omega)
  obtain ⟨k, hkd⟩ : ∃ k, k = (i0 + 1) % r.length := ⟨_, rfl⟩
  rw [← hkd] at hk
  refine ⟨k, hk, ?_⟩
  have hL := rotL_length (r := r) (Nat.le_of_lt hk)
  obtain ⟨s, hs⟩ : ∃ s, s = rotL k r := ⟨_, rfl⟩
  have hsv : ∀ i, rv s i = rv r (k + i) := fun i => by rw [hs]; exact rot_rv' hk i
  rw [← hs] at hL ⊢
  have hkm : ∀ j, rv r (k + j) = rv r (i0 + 1 + j) := fun j => by
    unfold rv
    rw [hkd, Nat.mod_add_mod]
  have hes : ∀ i, edgeV s i = edgeV r (i0 + 1 + i) := fun i => by
    unfold edgeV
    rw [hsv, hsv, hkm, hkm]
    rfl
  have hup0 : upB (edgeV s 0) = true := by
    rw [hes]
    unfold turnAt at hp0
    rw [Bool.and_eq_true] at hp0
    exact hp0.2
  have hlow : upB (edgeV s (s.length - 1)) = false := by
    rw [hes, hL, show i0 + 1 + (r.length - 1) = i0 + r.length by omega, hper]
    unfold turnAt at hp0
    rw [Bool.and_eq_true] at hp0
    simpa using hp0.1
  have hno : ∀ i, i + 1 < s.length → upB (edgeV s i) = false → upB (edgeV s (i + 1)) = false := fun i hi h => by
    cases q : upB (edgeV s (i + 1))
    · rfl
    · exfalso
      have hper2 : ∀ j, edgeV r (j % r.length) = edgeV r j := fun j => by
        unfold edgeV rv
        rw [Nat.mod_add_mod, Nat.mod_mod]
      have ht2 : turnAt r ((i0 + 1 + i) % r.length) = true := by
        unfold turnAt
        have e1 : edgeV r ((i0 + 1 + i) % r.length) = edgeV s i := by rw [hper2, hes]
        have e2 : edgeV r ((i0 + 1 + i) % r.length + 1) = edgeV s (i + 1) := by
          rw [hes]
          unfold edgeV rv
          rw [show (i0 + 1 + i) % r.length + 1 + 1 = (i0 + 1 + i) % r.length + 2 by omega, Nat.mod_add_mod, Nat.mod_add_mod]
          rfl
        rw [e1, e2, h, q]
        rfl
      have := hu _ (Nat.mod_lt _ (by omega)) ht2
      by_cases c : i0 + 1 + i < r.length
      · rw [Nat.mod_eq_of_lt c] at this; omega
      · rw [Nat.mod_eq_sub_mod (by omega), Nat.mod_eq_of_lt (by omega)] at this; omega
  obtain ⟨m, hm0, hmn, hmu, hml⟩ : ∃ m, 0 < m ∧ m < s.length ∧ (∀ i, i < m → upB (edgeV s i) = true) ∧ ∀ i, m ≤ i → i < s.length → upB (edgeV s i) = false := by
    have step : ∀ j, j < s.length → (∀ i, i ≤ j → upB (edgeV s i) = true) ∨ ∃ m, 0 < m ∧ m ≤ j ∧ (∀ i, i < m → upB (edgeV s i) = true) ∧ ∀ i, m ≤ i → i ≤ j → upB (edgeV s i) = false := by
      intro j
      induction j with
      | zero => exact fun _ => .inl fun i hi => by rw [show i = 0 by omega]; exact hup0
      | succ j ih =>
        intro hj
        rcases ih (by omega) with h | ⟨m, a, b, c, d⟩
        · cases q : upB (edgeV s (j + 1))
          · exact .inr ⟨j + 1, by omega, Nat.le_refl _, fun i hi => h i (by omega), fun i h1 h2 => by rw [show i = j + 1 by omega]; exact q⟩
          · exact .inl fun i hi => by
              by_cases e : i = j + 1
              · rw [e]; exact q
              · exact h i (by omega)
        · refine .inr ⟨m, a, by omega, c, fun i h1 h2 => ?_⟩
          by_cases e : i = j + 1
          · rw [e]; exact hno j hj (d j b (Nat.le_refl _))
          · exact d i h1 (by omega)
    rcases step (s.length - 1) (by omega) with h | ⟨m, a, b, c, d⟩
    · have := h (s.length - 1) (Nat.le_refl _)
      rw [hlow] at this
      cases this
    · exact ⟨m, a, by omega, c, fun i h1 h2 => d i h1 (by omega)⟩
  have hsn : ∀ i, near 20000 (rv s i) := fun i => by rw [hsv]; exact hn _ (rv_mem (by omega))
  have hsd : ∀ i, rv s i ≠ rv s (i + 1) := fun i => by rw [hsv, hsv]; exact hdist (k + i)
  have hst : ∀ i, 0 < det (rv s i) (rv s (i + 1)) (rv s (i + 2)) := fun i => by rw [hsv, hsv, hsv]; exact leftAt_det.1 (hl' (k + i))
  have e0 : ∀ i, i < s.length → rv s i = at0 s i := fun i hi => rv_lt hi
  have hup : Rise 1 40001 (fun i => at0 s i) m := by
    refine ⟨fun i hi => ?_, fun i hi => ?_⟩
    · have := upB_lexy.1 (hmu i hi)
      rw [e0 i (by omega), e0 (i + 1) (by omega)] at this
      exact lexy_lin (by rw [← e0 i (by omega)]; exact hsn i) (by rw [← e0 (i + 1) (by omega)]; exact hsn (i + 1)) this
    · have := hst i
      rw [e0 i (by omega), e0 (i + 1) (by omega), e0 (i + 2) (by omega)] at this
      exact this
  have hdn : Rise (-1) (-40001) (fun i => rv s (m + i)) (s.length - m) := by
    refine ⟨fun i hi => ?_, fun i hi => hst (m + i)⟩
    have := edge_ne (hml (m + i) (by omega) (by omega)) (hsd (m + i))
    have := lexy_lin (hsn _) (hsn _) this
    rw [lin_neg, lin_neg]
    have e : m + (i + 1) = m + i + 1 := rfl
    rw [e]
    omega
  have hH := ring_self (by omega) hm0 hmn hup hdn
  refine ⟨hH, fun q hq => ?_⟩
  obtain ⟨j, hj, rfl⟩ := mem_at hq
  obtain ⟨t, ht', e⟩ : ∃ t, t < s.length ∧ at0 s t = at0 r j := by
    refine ⟨(j + (r.length - k)) % r.length, by rw [hL]; exact Nat.mod_lt _ (by omega), ?_⟩
    rw [← rv_lt (by rw [hL]; exact Nat.mod_lt _ (by omega)), hsv]
    unfold rv
    rw [Nat.add_mod_mod, show k + (j + (r.length - k)) = j + r.length by omega, Nat.add_mod_right, Nat.mod_eq_of_lt hj]
  rw [← e, ← e0 0 (by omega)]
  rw [← e0 t ht']
  refine lin_lexy' (hsn 0) (hsn t) ?_
  by_cases q : t = 0
  · rw [q]; exact Int.le_refl _
  by_cases q2 : t ≤ m
  · have := hup.lt (i := 0) (j := t) (by omega) q2
    rw [e0 0 (by omega), e0 t ht']
    exact Int.le_of_lt this
  · have := hdn.lt (i := t - m) (j := s.length - m) (by omega) (Nat.le_refl _)
    simp only [lin_neg] at this
    rw [show m + (t - m) = t by omega, show m + (s.length - m) = s.length by omega, show rv s s.length = rv s 0 by unfold rv; rw [Nat.mod_self, Nat.zero_mod]] at this
    omega
end Go.Proofs.Ytbienlhofkfdpaa
