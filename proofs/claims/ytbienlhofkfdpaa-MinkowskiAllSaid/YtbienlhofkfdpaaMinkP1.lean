/- Layer 15 (plain): rings that rise, then fall, and turn left at every vertex are convex. -/
import Derived.Test.YtbienlhofkfdpaaHullP7
namespace Go.Proofs.Ytbienlhofkfdpaa
set_option linter.unusedVariables false

def near (m : Int) (p : Pt) : Prop := (-m ≤ p.1 ∧ p.1 ≤ m) ∧ (-m ≤ p.2 ∧ p.2 ≤ m)
theorem nodup_le {α : Type} [DecidableEq α] : ∀ {l m : List α}, l.Nodup → (∀ x ∈ l, x ∈ m) → l.length ≤ m.length
  | [], _, _, _ => Nat.zero_le _
  | a :: l, m, h, hs => by
    obtain ⟨h1, h2⟩ := List.nodup_cons.1 h
    have ha := hs a (by simp)
    have := nodup_le (l := l) (m := m.erase a) h2 (fun x hx => (List.mem_erase_of_ne (by rintro rfl; exact h1 hx)).2 (hs x (List.mem_cons_of_mem _ hx)))
    rw [List.length_erase_of_mem ha] at this
    have hm : 0 < m.length := List.length_pos_of_mem ha
    simp
    omega
def ConvexI (r : List Pt) : Prop := ∀ i, i < r.length → ∀ k, k < r.length → k ≠ i → k ≠ (i + 1) % r.length → 0 < det (at0 r i) (rv r (i + 1)) (at0 r k)
theorem mem_at {r : List Pt} {q : Pt} (hq : q ∈ r) : ∃ k, k < r.length ∧ at0 r k = q := by
  obtain ⟨k, hk, rfl⟩ := List.getElem_of_mem hq
  exact ⟨k, hk, at0_eq hk⟩
theorem ConvexI.left {r : List Pt} (h : ConvexI r) : ∀ i, i < r.length → ∀ q ∈ r, 0 ≤ det (at0 r i) (rv r (i + 1)) q := by
  intro i hi q hq
  obtain ⟨k, hk, rfl⟩ := mem_at hq
  by_cases h1 : k = i
  · subst h1; rw [det_self]; exact Int.le_refl _
  by_cases h2 : k = (i + 1) % r.length
  · subst h2
    exact Int.le_of_eq (det_end _ _).symm
  exact Int.le_of_lt (h i hi k hk h1 h2)
theorem ConvexI.self {r : List Pt} (h : ConvexI r) (h3 : 3 ≤ r.length) : IsHull r r := ⟨h3, fun i k hi hk h1 h2 => h i hi k hk h1 h2, h.left, fun q hq => hq⟩
theorem IsHull.cv {l r : List Pt} (h : IsHull l r) : ConvexI r := fun i hi k hk h1 h2 => h.convex i k hi hk h1 h2

section
variable {K L : Int}
/-- A chain of points that rises and turns left: every three turn left. -/
structure Rise (K L : Int) (f : Nat → Pt) (m : Nat) : Prop where
  asc : ∀ i, i < m → lin K L (f i) < lin K L (f (i + 1))
  turn : ∀ i, i + 2 ≤ m → 0 < det (f i) (f (i + 1)) (f (i + 2))
theorem Rise.lt {f : Nat → Pt} {m : Nat} (h : Rise K L f m) : ∀ {i j : Nat}, i < j → j ≤ m → lin K L (f i) < lin K L (f j)
  | i, 0, h1, _ => absurd h1 (by omega)
  | i, j + 1, h1, h2 => by
    have := h.asc j (by omega)
    by_cases e : i = j
    · subst e; exact this
    · have := h.lt (i := i) (j := j) (by omega) (by omega)
      omega
theorem Rise.one {f : Nat → Pt} {m : Nat} (h : Rise K L f m) : ∀ {i j : Nat}, i < j → j + 1 ≤ m → 0 < det (f i) (f j) (f (j + 1))
  | i, 0, h1, _ => absurd h1 (by omega)
  | i, j + 1, h1, h2 => by
    by_cases e : i = j
    · subst e; exact h.turn i (by omega)
    · have ih := h.one (i := i) (j := j) (by omega) (by omega)
      exact (turn_skip (h.asc j (by omega)) (h.lt (i := i) (j := j) (by omega) (by omega)) (h.asc (j + 1) (by omega)) ih (h.turn j (by omega))).2
theorem Rise.three {f : Nat → Pt} {m : Nat} (h : Rise K L f m) : ∀ {i j k : Nat}, i < j → j < k → k ≤ m → 0 < det (f i) (f j) (f k)
  | i, j, 0, _, h2, _ => absurd h2 (by omega)
  | i, j, k + 1, h1, h2, h3 => by
    by_cases e : j = k
    · subst e; exact h.one h1 h3
    · have ih := h.three (i := i) (j := j) (k := k) h1 (by omega) (by omega)
      exact (turn_skip (h.lt (i := j) (j := k) (by omega) (by omega)) (h.lt h1 (by omega)) (h.asc k (by omega)) ih (h.one (i := j) (j := k) (by omega) h3)).1
theorem Rise.left {f : Nat → Pt} {m : Nat} (h : Rise K L f m) {i j : Nat} (hi : i < m) (hj : j ≤ m) : 0 ≤ det (f i) (f (i + 1)) (f j) := by
  rcases Nat.lt_trichotomy j i with q | q | q
  · have := h.three q (Nat.lt_succ_self i) (by omega)
    rw [det_cycle] at this
    exact Int.le_of_lt this
  · subst q; rw [det_self]; exact Int.le_refl _
  · by_cases e : j = i + 1
    · subst e; rw [det_end]; exact Int.le_refl _
    · exact Int.le_of_lt (h.three (Nat.lt_succ_self i) (by omega) hj)
theorem side_across {B T q a b : Pt} (hBT : lin K L B < lin K L T) (h1 : lin K L B ≤ lin K L q) (h2 : lin K L q ≤ lin K L T) (h3 : 0 ≤ det B T q) (hab : lin K L a < lin K L b) (hB : 0 ≤ det a b B) (hT : 0 ≤ det a b T) : 0 ≤ det a b q := by
  have e : (lin K L T - lin K L B) * det a b q = det a b B * (lin K L T - lin K L q) + det a b T * (lin K L q - lin K L B) + (lin K L b - lin K L a) * det B T q := by unfold det lin; grind
  have m1 := Int.mul_nonneg hB (show 0 ≤ lin K L T - lin K L q by omega)
  have m2 := Int.mul_nonneg hT (show 0 ≤ lin K L q - lin K L B by omega)
  have m3 := Int.mul_nonneg (show 0 ≤ lin K L b - lin K L a by omega) h3
  exact nonneg_of_mul (a := lin K L T - lin K L B) (by omega) (by rw [e]; omega)
/-- A chain up and a chain down: what lies on the one is left of the other's edges. -/
theorem Rise.across {f g : Nat → Pt} {m n : Nat} (hf : Rise K L f m) (hg : Rise (-K) (-L) g n) (h0 : g 0 = f m) (h1 : g n = f 0) (hm : 0 < m) {i t : Nat} (hi : i < m) (ht : t ≤ n) : 0 ≤ det (f i) (f (i + 1)) (g t) := by
  by_cases t0 : t = 0
  · subst t0; rw [h0]; exact hf.left hi (Nat.le_refl _)
  by_cases tn : t = n
  · subst tn; rw [h1]; exact hf.left hi (Nat.zero_le _)
  have a := hg.lt (i := 0) (j := t) (by omega) ht
  have b := hg.lt (i := t) (j := n) (by omega) (Nat.le_refl _)
  have d := hg.three (i := 0) (j := t) (k := n) (by omega) (by omega) (Nat.le_refl _)
  rw [lin_neg, lin_neg] at a b
  rw [h0] at a d
  rw [h1] at b d
  refine side_across (B := f 0) (T := f m) (hf.lt hm (Nat.le_refl _)) (by omega) (by omega) ?_ (hf.asc i hi) (hf.left hi (Nat.zero_le _)) (hf.left hi (Nat.le_refl _))
  rw [det_cycle, det_cycle] at d
  exact Int.le_of_lt d
end
theorem at0_take {s : List Pt} {m i : Nat} (h : i < m) : at0 (s.take m) i = at0 s i := by
  unfold at0
  rw [List.getD_eq_getElem?_getD, List.getD_eq_getElem?_getD, List.getElem?_take, if_pos h]
theorem at0_drop {s : List Pt} {m i : Nat} : at0 (s.drop m) i = at0 s (m + i) := by
  unfold at0
  rw [List.getD_eq_getElem?_getD, List.getD_eq_getElem?_getD, List.getElem?_drop]
theorem at0_app_l {s t : List Pt} {i : Nat} (h : i < s.length) : at0 (s ++ t) i = at0 s i := by
  unfold at0
  rw [List.getD_eq_getElem?_getD, List.getD_eq_getElem?_getD, List.getElem?_append_left h]
theorem at0_app_r {s t : List Pt} {i : Nat} (h : s.length ≤ i) : at0 (s ++ t) i = at0 t (i - s.length) := by
  unfold at0
  rw [List.getD_eq_getElem?_getD, List.getD_eq_getElem?_getD, List.getElem?_append_right h]
/-- The ring: up to index m, then down to its first vertex. -/
theorem ring_convex {K L : Int} {P s : List Pt} {m : Nat} (h3 : 3 ≤ s.length) (hm : 0 < m) (hmn : m < s.length) (hup : Rise K L (fun i => at0 s i) m) (hdn : Rise (-K) (-L) (fun i => rv s (m + i)) (s.length - m))
    (hsub : ∀ q ∈ s, q ∈ P) (hl : ∀ q ∈ P, (∀ i, i < m → 0 ≤ det (at0 s i) (at0 s (i + 1)) q) ∧ ∀ i, i < s.length - m → 0 ≤ det (rv s (m + i)) (rv s (m + i + 1)) q) : IsHull P s := by
  have e0 : ∀ i, i < s.length → rv s i = at0 s i := fun i hi => by unfold rv; rw [Nat.mod_eq_of_lt hi]
  have en : rv s s.length = at0 s 0 := by unfold rv; rw [Nat.mod_self]
  have hlo : Chain K L P (s.take (m + 1)) := by
    have hlen : (s.take (m + 1)).length = m + 1 := by rw [List.length_take]; omega
    refine ⟨fun i hi => ?_, fun i j k h1 h2 h4 => ?_, fun i hi q hq => ?_, fun q hq => hsub q (List.mem_of_mem_take hq)⟩
    · rw [at0_take (by omega), at0_take (by omega)]
      exact hup.asc i (by omega)
    · rw [at0_take (by omega), at0_take (by omega), at0_take (by omega)]
      exact hup.three h1 h2 (by omega)
    · rw [at0_take (by omega), at0_take (by omega)]
      exact (hl q hq).1 i (by omega)
  have hd : ∀ i, i ≤ s.length - m → at0 (s.drop m ++ [at0 s 0]) i = rv s (m + i) := fun i hi => by
    by_cases q : i < s.length - m
    · rw [at0_app_l (by rw [List.length_drop]; exact q), at0_drop, e0 _ (by omega)]
    · rw [at0_app_r (by rw [List.length_drop]; omega), List.length_drop, show i - (s.length - m) = 0 by omega, show m + i = s.length by omega, en]
      rfl
  have hhi : Chain (-K) (-L) P (s.drop m ++ [at0 s 0]) := by
    have hlen : (s.drop m ++ [at0 s 0]).length = s.length - m + 1 := by simp
    refine ⟨fun i hi => ?_, fun i j k h1 h2 h4 => ?_, fun i hi q hq => ?_, fun q hq => ?_⟩
    · rw [hd i (by omega), hd (i + 1) (by omega)]
      exact hdn.asc i (by omega)
    · rw [hd i (by omega), hd j (by omega), hd k (by omega)]
      exact hdn.three h1 h2 (by omega)
    · rw [hd i (by omega), hd (i + 1) (by omega)]
      exact (hl q hq).2 i (by omega)
    · rcases List.mem_append.1 hq with hq | hq
      · exact hsub q (List.mem_of_mem_drop hq)
      · rw [List.mem_singleton] at hq
        rw [hq]
        exact hsub _ (at0_mem (by omega))
  have hlen1 : (s.take (m + 1)).length = m + 1 := by rw [List.length_take]; omega
  have hlen2 : (s.drop m ++ [at0 s 0]).length = s.length - m + 1 := by simp
  have := hull_ring hlo hhi (by omega) (by omega) (by rw [hd 0 (by omega), hlen1, at0_take (by omega), Nat.add_zero, Nat.add_sub_cancel, e0 _ hmn]) (by
    rw [hlen2, Nat.add_sub_cancel, hd _ (Nat.le_refl _), show m + (s.length - m) = s.length by omega, en, at0_take (by omega)]) (by omega)
  have e : (s.take (m + 1)).dropLast ++ (s.drop m ++ [at0 s 0]).dropLast = s := by
    rw [List.dropLast_concat, List.dropLast_eq_take, hlen1, List.take_take, Nat.add_sub_cancel, Nat.min_eq_left (by omega), List.take_append_drop]
  rwa [e] at this
theorem ring_self {K L : Int} {s : List Pt} {m : Nat} (h3 : 3 ≤ s.length) (hm : 0 < m) (hmn : m < s.length) (hup : Rise K L (fun i => at0 s i) m) (hdn : Rise (-K) (-L) (fun i => rv s (m + i)) (s.length - m)) : IsHull s s := by
  have e0 : ∀ i, i < s.length → rv s i = at0 s i := fun i hi => by unfold rv; rw [Nat.mod_eq_of_lt hi]
  have en : rv s s.length = at0 s 0 := by unfold rv; rw [Nat.mod_self]
  have j0 : rv s (m + 0) = at0 s m := by rw [Nat.add_zero, e0 _ hmn]
  have j1 : rv s (m + (s.length - m)) = at0 s 0 := by rw [show m + (s.length - m) = s.length by omega, en]
  refine ring_convex h3 hm hmn hup hdn (fun q hq => hq) fun q hq => ?_
  obtain ⟨k, hk, rfl⟩ := mem_at hq
  have hdn2 : Rise K L (fun i => at0 s i) m := hup
  have hup' : Rise (- -K) (- -L) (fun i => at0 s i) m := by rw [Int.neg_neg, Int.neg_neg]; exact hup
  have A := fun i t (hi : i < m) (ht : t ≤ s.length - m) => hup.across hdn j0 j1 hm hi ht
  have B := fun i t (hi : i < s.length - m) (ht : t ≤ m) => hdn.across hup' j1.symm j0.symm (by omega) hi ht
  have ek : ∀ t, m ≤ t → t < s.length → at0 s t = rv s (m + (t - m)) := fun t h1 h2 => by rw [show m + (t - m) = t by omega, e0 _ h2]
  constructor
  · intro i hi
    by_cases q : k ≤ m
    · exact hup.left hi q
    · rw [ek k (by omega) hk]
      exact A i (k - m) hi (by omega)
  · intro i hi
    by_cases q : k ≤ m
    · exact B i k hi q
    · rw [ek k (by omega) hk]
      exact hdn.left hi (by omega)
end Go.Proofs.Ytbienlhofkfdpaa
