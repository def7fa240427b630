/- Layer 15 (plain): rings that rise, then fall, and turn left at every vertex are convex. -/
import Derived.Test.YtpbgimdbhgahkaaGreatHullP7
namespace Go.Proofs.YtpbgimdbhgahkaaGreat
set_option linter.unusedVariables false

def near (m : Int) (p : Pt) : Prop := (-m ≤ p.1 ∧ p.1 ≤ m) ∧ (-m ≤ p.2 ∧ p.2 ≤ m)
theorem nodup_le {α : Type} [DecidableEq α] : ∀ {l m : List α}, l.Nodup → (∀ x ∈ l, x ∈ m) → l.length ≤ m.length
  | [], _, _, _ => Nat.zero_le _
  | a :: l, m, h, hs => by
    obtain ⟨h1, h2⟩ := List.nodup_cons.1 h
    have ha := hs a (by simp)
    have := nodup_le (l := l) (m := m.erase a) h2 (fun x hx => (List.mem_erase_of_ne (by rintro rfl; exact h1 hx)).2 (hs x (List.mem_cons_of_mem _ hx)))
    rw [List.length_erase_of_mem ha] at this
    have hm : 0 < m.length := List.length_pos_of_mem ha
    simp
    omega
def ConvexI (r : List Pt) : Prop := ∀ i, i < r.length → ∀ k, k < r.length → k ≠ i → k ≠ (i + 1) % r.length → 0 < det (at0 r i) (rv r (i + 1)) (at0 r k)
theorem mem_at {r : List Pt} {q : Pt} (hq : q ∈ r) : ∃ k, k < r.length ∧ at0 r k = q := by
  obtain ⟨k, hk, rfl⟩ := List.getElem_of_mem hq
  exact ⟨k, hk, at0_eq hk⟩
theorem ConvexI.left {r : List Pt} (h : ConvexI r) : ∀ i, i < r.length → ∀ q ∈ r, 0 ≤ det (at0 r i) (rv r (i + 1)) q := by
  intro i hi q hq
  obtain ⟨k, hk, rfl⟩ := mem_at hq
  by_cases h1 : k = i
  · subst h1; rw [det_self]; exact Int.le_refl _
  by_cases h2 : k = (i + 1) % r.length
  · subst h2
    exact Int.le_of_eq (det_end _ _).symm
  exact Int.le_of_lt (h i hi k hk h1 h2)
theorem ConvexI.self {r : List Pt} (h : ConvexI r) (h3 : 3 ≤ r.length) : IsHull r r := ⟨h3, fun i k hi hk h1 h2 => h i hi k hk h1 h2, h.left, fun q hq => hq⟩
theorem IsHull.cv {l r : List Pt} (h : IsHull l r) : ConvexI r := fun i hi k hk h1 h2 => h.convex i k hi hk h1 h2

section
variable {K L : Int}
/-- A chain of points that rises and turns left: every three turn left. -/
structure Rise (K L : Int) (f : Nat → Pt) (m : Nat) : Prop where
  asc : ∀ i, i < m → lin K L (f i) < lin K L (f (i + 1))
  turn : ∀ i, i + 2 ≤ m → 0 < det (f i) (f (i + 1)) (f (i + 2))
theorem Rise.lt {f : Nat → Pt} {m : Nat} (h : Rise K L f m) : ∀ {i j : Nat}, i < j → j ≤ m → lin K L (f i) < lin K L (f j)
  | i, 0, h1, _ => absurd h1 (by omega)
  | i, j + 1, h1, h2 => by
    have := h.asc j (by omega)
    by_cases e : i = j
    · subst e; exact this
    · have := h.lt (i := i) (j := j) (by omega) (by omega)
      omega
theorem Rise.one {f : Nat → Pt} {m : Nat} (h : Rise K L f m) : ∀ {i j : Nat}, i < j → j + 1 ≤ m → 0 < det (f i) (f j) (f (j + 1))
  | i, 0, h1, _ => absurd h1 (by omega)
  | i, j + 1, h1, h2 => by
    by_cases e : i = j
    · subst e; exact h.turn i (by omega)
    · have ih := h.one (i := i) (j := j) (by omega) (by omega)
      exact (turn_skip (h.asc j (by omega)) (h.lt (i := i) (j := j) (by omega) (by omega)) (h.asc (j + 1) (by omega)) ih (h.turn j (by omega))).2
theorem Rise.three {f : Nat → Pt} {m : Nat} (h : Rise K L f m) : ∀ {i j k : Nat}, i < j → j < k → k ≤ m → 0 < det (f i) (f j) (f k)
  | i, j, 0, _, h2, _ => absurd h2 (by omega)
  | i, j, k + 1, h1, h2, h3 => by
    by_cases e : j = k
    · subst e; exact h.one h1 h3
    · have ih := h.three (i := i) (j := j) (k := k) h1 (by omega) (by omega)
      exact (turn_skip (h.lt (i := j) (j := k) (by omega) (by omega)) (h.lt h1 (by omega)) (h.asc k (by omega)) ih (h.one (i := j) (j := k) (by omega) h3)).1
theorem Rise.left {f : Nat → Pt} {m : Nat} (h : Rise K L f m) {i j : Nat} (hi : i < m) (hj : j ≤ m) : 0 ≤ det (f i) (f (i + 1)) (f j) := by
  rcases Nat.lt_trichotomy j i with q | q | q
  · have := h.three q (Nat.lt_succ_self i) (by omega)
    rw [det_cycle] at this
    exact Int.le_of_lt this
  · subst q; rw [det_self]; exact Int.le_refl _
  · by_cases e : j = i + 1
    · subst e; rw [det_end]; exact Int.le_refl _
    · exact Int.le_of_lt (h.three (Nat.lt_succ_self i) (by omega) hj)
theorem side_across {B T q a b : Pt} (hBT : lin K L B < lin K L T) (h1 : lin K L B ≤ lin K L q) (h2 : lin K L q ≤ lin K L T) (h3 : 0 ≤ det B T q) (hab : lin K L a < lin K L b) (hB : 0 ≤ det a b B) (hT : 0 ≤ det a b T) : 0 ≤ det a b q := by
  have e : (lin K L T - lin K L B) * det a b q = det a b B * (lin K L T - lin K L q) + det a b T * (lin K L q - lin K L B) + (lin K L b - lin K L a) * det B T q := by unfold det lin; grind
  have m1 := Int.mul_nonneg hB (show 0 ≤ lin K L T - lin K L q by omega)
  have m2 := Int.mul_nonneg hT (show 0 ≤ lin K L q - lin K L B by omega)
  have m3 := Int.mul_nonneg (show 0 ≤ lin K L b - lin K L a by omega) h3
  exact nonneg_of_mul (a := lin K L T - lin K L B) (by omega) (by rw [e]; omega)
/-- A chain up and a chain down: what lies on the one is left of the other's edges. -/
theorem Rise.across {f g : Nat → Pt} {m n : Nat} (hf : Rise K L f m) (hg : Rise (-K) (-L) g n) (h0 : g 0 = f m) (h1 : g n = f 0) (hm : 0 < m) {i t : Nat} (hi : i < m) (ht : t ≤ n) : 0 ≤ det (f i) (f (i + 1)) (g t) := by
  by_cases t0 : t = 0
  · subst t0; rw [h0]; exact hf.left hi (Nat.le_refl _)
  by_cases tn : t = n
  · subst tn; rw [h1]; exact hf.left hi (Nat.zero_le _)
  have a := hg.lt (i := 0) (j := t) (by omega) ht
  have b := hg.lt (i := t) (j := n) (by omega) (Nat.le_refl _)
  have d := hg.three (i := 0) (j := t) (k := n) (by omega) (by omega) (Nat.le_refl _)
  rw [lin_neg, lin_neg] at a b
  rw [h0] at a d
  rw [h1] at b d
  refine side_across (B := f 0) (T := f m) (hf.lt hm (Nat.le_refl _)) (by omega) (by omega) ?_ (hf.asc i hi) (hf.left hi (Nat.zero_le _)) (hf.left hi (Nat.le_refl _))
  rw [det_cycle, det_cycle] at d
  exact Int.le_of_lt d
end
theorem at0_take {s : List Pt} {m i : Nat} (h : i < m) : at0 (s.take m) i = at0 s i := by
  unfold at0
  rw [List.getD_eq_getElem?_getD, List.getD_eq_getElem?_getD, List.getElem?_take, if_pos h]
theorem at0_drop {s : List Pt} {m i : Nat} : at0 (s.drop m) i = at0 s (m + i) := by
  unfold at0
  rw [List.getD_eq_getElem?_getD, List.getD_eq_getElem?_getD, List.getElem?_drop]
theorem at0_app_l {s t : List Pt} {i : Nat} (h : i < s.length) : at0 (s ++ t) i = at0 s i := by
  unfold at0
  rw [List.getD_eq_getElem?_getD, List.getD_eq_getElem?_getD, List.getElem?_append_left h]
theorem at0_app_r {s t : List Pt} {i : Nat} (h : s.length ≤ i) : at0 (s ++ t) i = at0 t (i - s.length) := by
  unfold at0
  rw [List.getD_eq_getElem?_getD, List.getD_eq_getElem?_getD, List.getElem?_append_right h]
/-- The ring: up to index m, then down to its first vertex. -/
theorem ring_convex {K L : Int} {P s : List Pt} {m : Nat} (h3 : 3 ≤ s.length) (hm : 0 < m) (hmn : m < s.length) (hup : Rise K L (fun i => at0 s i) m) (hdn : Rise (-K) (-L) (fun i => rv s (m + i)) (s.length - m))
    (hsub : ∀ q ∈ s, q ∈ P) (hl : ∀ q ∈ P, (∀ i, i < m → 0 ≤ det (at0 s i) (at0 s (i + 1)) q) ∧ ∀ i, i < s.length - m → 0 ≤ det (rv s (m + i)) (rv s (m + i + 1)) q) : IsHull P s := by
  have e0 : ∀ i, i < s.length → rv s i = at0 s i := fun i hi => by unfold rv; rw [Nat.mod_eq_of_lt hi]
  have en : rv s s.length = at0 s 0 := by unfold rv; rw [Nat.mod_self]
  have hlo : Chain K L P (s.take (m + 1)) := by
    have hlen : (s.take (m + 1)).length = m + 1 := by rw [List.length_take]; omega
    refine ⟨fun i hi => ?_, fun i j k h1 h2 h4 => ?_, fun i hi q hq => ?_, fun q hq => hsub q (List.mem_of_mem_take hq)⟩
    · rw [at0_take (by omega), at0_take (by omega)]
      exact hup.asc i (by omega)
    · rw [at0_take (by omega), at0_take (by omega), at0_take (by omega)]
      exact hup.three h1 h2 (by omega)
    · rw [at0_take (by omega), at0_take (by omega)]
      exact (hl q hq).1 i (by omega)
  have hd : ∀ i, i ≤ s.length - m → at0 (s.drop m ++ [at0 s 0]) i = rv s (m + i) := fun i hi => by
    by_cases q : i < s.length - m
    · rw [at0_app_l (by rw [List.length_drop]; exact q), at0_drop, e0 _ (by omega)]
    · rw [at0_app_r (by rw [List.length_drop]; omega), List.length_drop, show i - (s.length - m) = 0 by omega, show m + i = s.length by omega, en]
      rfl
  have hhi : Chain (-K) (-L) P (s.drop m ++ [at0 s 0]) := by
    have hlen : (s.drop m ++ [at0 s 0]).length = s.length - m + 1 := by simp
    refine ⟨fun i hi => ?_, fun i j k h1 h2 h4 => ?_, fun i hi q hq => ?_, fun q hq => ?_⟩
    · rw [hd i (by omega), hd (i + 1) (by omega)]
      exact hdn.asc i (by omega)
    · rw [hd i (by omega), hd j (by omega), hd k (by omega)]
      exact hdn.three h1 h2 (by omega)
    · rw [hd i (by omega), hd (i + 1) (by omega)]
      exact (hl q hq).2 i (by omega)
    · rcases List.mem_append.1 hq with hq | hq
      · exact hsub q (List.mem_of_mem_drop hq)
      · rw [List.mem_singleton] at hq
        rw [hq]
        exact hsub _ (at0_mem (by omega))
  have hlen1 : (s.take (m + 1)).length = m + 1 := by rw [List.length_take]; omega
  have hlen2 : (s.drop m ++ [at0 s 0]).length = s.length - m + 1 := by simp
  have := hull_ring hlo hhi (by omega) (by omega) (by rw [hd 0 (by omega), hlen1, at0_take (by omega), Nat.add_zero, Nat.add_sub_cancel, e0 _ hmn]) (by
    rw [hlen2, Nat.add_sub_cancel, hd _ (Nat.le_refl _), show m + (s.length - m) = s.length by omega, en, at0_take (by omega)]) (by omega)
  have e : (s.take (m + 1)).dropLast ++ (s.drop m ++ [at0 s 0]).dropLast = s := by
    rw [List.dropLast_concat, List.dropLast_eq_take, hlen1, List.take_take, Nat.add_sub_cancel, Nat.min_eq_left (by omega), List.take_append_drop]
  rwa [e] at this
theorem ring_self {K L : Int} {s : List Pt} {m : Nat} (h3 : 3 ≤ s.length) (hm : 0 < m) (hmn : m < s.length) (hup : Rise K L (fun i => at0 s i) m) (hdn : Rise (-K) (-L) (fun i => rv s (m + i)) (s.length - m)) : IsHull s s := by
  have e0 : ∀ i, i < s.length → rv s i = at0 s i := fun i hi => by unfold rv; rw [Nat.mod_eq_of_lt hi]
  have en : rv s s.length = at0 s 0 := by unfold rv; rw [Nat.mod_self]
  have j0 : rv s (m + 0) = at0 s m := by rw [Nat.add_zero, e0 _ hmn]
  have j1 : rv s (m + (s.length - m)) = at0 s 0 := by rw [show m + (s.length - m) = s.length by omega, en]
  refine ring_convex h3 hm hmn hup hdn (fun q hq => hq) fun q hq => ?_
  obtain ⟨k, hk, rfl⟩ := mem_at hq
  have hdn2 : Rise K L (fun i => at0 s i) m := hup
  have hup' : Rise (- -K) (- -L) (fun i => at0 s i) m := by rw [Int.neg_neg, Int.neg_neg]; exact hup
  have A := fun i t (hi : i < m) (ht : t ≤ s.length - m) => hup.across hdn j0 j1 hm hi ht
  have B := fun i t (hi : i < s.length - m) (ht : t ≤ m) => hdn.across hup' j1.symm j0.symm (by omega) hi ht
  have ek : ∀ t, m ≤ t → t < s.length → at0 s t = rv s (m + (t - m)) := fun t h1 h2 => by rw [show m + (t - m) = t by omega, e0 _ h2]
  constructor
  · intro i hi
    by_cases q : k ≤ m
    · exact hup.left hi q
    · rw [ek k (by omega) hk]
      exact A i (k - m) hi (by omega)
  · intro i hi
    by_cases q : k ≤ m
    · exact B i k hi q
    · rw [ek k (by omega) hk]
      exact hdn.left hi (by omega)
end Go.Proofs.YtpbgimdbhgahkaaGreat
/- Layer 15 (plain): what Valid asks is convexity. -/
namespace Go.Proofs.YtpbgimdbhgahkaaGreat
set_option linter.unusedVariables false

def crs (a b : Pt) : Int := a.1 * b.2 - a.2 * b.1
def subP (a b : Pt) : Pt := (a.1 - b.1, a.2 - b.2)
def addP (a b : Pt) : Pt := (a.1 + b.1, a.2 + b.2)
theorem det_crs (a b c : Pt) : det a b c = crs (subP b a) (subP c b) := by unfold det crs subP; grind
/-- A direction of the first half turn. -/
def upB (d : Pt) : Bool := decide (0 < d.2) || (decide (d.2 = 0) && decide (0 < d.1))
theorem upB_lexy {p q : Pt} : upB (subP q p) = true ↔ lexy p q := by
  unfold upB subP lexy
  simp only [Bool.or_eq_true, Bool.and_eq_true, decide_eq_true_eq]
  omega
theorem lexy_lin {p q : Pt} (hp : near 20000 p) (hq : near 20000 q) (h : lexy p q) : lin 1 40001 p < lin 1 40001 q := by
  unfold near at hp hq
  unfold lexy at h
  unfold lin
  omega
theorem lin_lexy' {p q : Pt} (hp : near 20000 p) (hq : near 20000 q) (h : lin 1 40001 p ≤ lin 1 40001 q) : p = q ∨ lexy p q :=
  lin_lexy (M := 20000) hp.1 hq.1 h
def edgeV (r : List Pt) (i : Nat) : Pt := subP (rv r (i + 1)) (rv r i)
theorem rv_lt {r : List Pt} {i : Nat} (h : i < r.length) : rv r i = at0 r i := by unfold rv; rw [Nat.mod_eq_of_lt h]
theorem rv_add (r : List Pt) (i : Nat) : rv r (i + r.length) = rv r i := by unfold rv; rw [Nat.add_mod_right]
/-- Here a lower direction is followed by an upper one. -/
def turnAt (r : List Pt) (i : Nat) : Bool := !upB (edgeV r i) && upB (edgeV r (i + 1))
def leftAt (r : List Pt) (i : Nat) : Bool := decide (0 < crs (edgeV r i) (edgeV r (i + 1)))
def turns (r : List Pt) (n : Nat) : Nat := ((List.range n).filter (turnAt r)).length
theorem turns_succ (r : List Pt) (n : Nat) : turns r (n + 1) = turns r n + (if turnAt r n then 1 else 0) := by
  unfold turns
  rw [List.range_succ, List.filter_append, List.length_append]
  congr 1
  by_cases h : turnAt r n = true
  · rw [if_pos h, List.filter_cons_of_pos h]; rfl
  · rw [if_neg h, List.filter_cons_of_neg h]; rfl
theorem leftAt_det {r : List Pt} {i : Nat} : leftAt r i = true ↔ 0 < det (rv r i) (rv r (i + 1)) (rv r (i + 2)) := by
  unfold leftAt
  rw [decide_eq_true_eq, det_crs]
  rfl
theorem one_of_filter {p : Nat → Bool} {n : Nat} (h : ((List.range n).filter p).length = 1) : ∃ k, k < n ∧ p k = true ∧ ∀ i, i < n → p i = true → i = k := by
  obtain ⟨k, hk⟩ := List.length_eq_one_iff.1 h
  have hm : ∀ i, i ∈ (List.range n).filter p ↔ i = k := fun i => by rw [hk, List.mem_singleton]
  have := (hm k).2 rfl
  rw [List.mem_filter, List.mem_range] at this
  exact ⟨k, this.1, this.2, fun i hi hp => (hm i).1 (List.mem_filter.2 ⟨List.mem_range.2 hi, hp⟩)⟩
theorem filter_one {p : Nat → Bool} {n k : Nat} (hk : k < n) (hp : p k = true) (hu : ∀ i, i < n → p i = true → i = k) : ((List.range n).filter p).length = 1 := by
  have h1 : ((List.range n).filter p).length ≤ 1 := nodup_le (m := [k]) (List.Nodup.sublist List.filter_sublist List.nodup_range) (fun x hx => by
    rw [List.mem_filter, List.mem_range] at hx
    rw [hu x hx.1 hx.2]
    simp)
  have h2 : 0 < ((List.range n).filter p).length := List.length_pos_of_mem (List.mem_filter.2 ⟨List.mem_range.2 hk, hp⟩)
  omega
theorem rot_rv' {r : List Pt} {k : Nat} (hk : k < r.length) (i : Nat) : rv (rotL k r) i = rv r (k + i) := by
  have hl := rotL_length (r := r) (Nat.le_of_lt hk)
  unfold rv
  rw [hl, rot_at hk (Nat.mod_lt _ (by omega)), Nat.add_mod_mod]
theorem edge_ne {a b : Pt} (h : upB (subP b a) = false) (h2 : a ≠ b) : lexy b a := by
  rcases lexy_tri a b with q | q | q
  · rw [upB_lexy.2 q] at h; cases h
  · exact absurd q h2
  · exact q
/-- Left turns at every vertex and one change from down to up: convex. -/
theorem turns_convex {r : List Pt} (h3 : 3 ≤ r.length) (hn : ∀ p ∈ r, near 20000 p) (hl : ∀ i, i < r.length → leftAt r i = true) (ht : turns r r.length = 1) :
    ∃ k, k < r.length ∧ IsHull (rotL k r) (rotL k r) ∧ (∀ q ∈ r, at0 (rotL k r) 0 = q ∨ lexy (at0 (rotL k r) 0) q) := by
  obtain ⟨i0, hi0, hp0, hu⟩ := one_of_filter ht
  have hper : ∀ i, edgeV r (i + r.length) = edgeV r i := fun i => by
    unfold edgeV
    rw [show i + r.length + 1 = (i + 1) + r.length by omega, rv_add, rv_add]
  have hl' : ∀ i, leftAt r i = true := fun i => by
    have h := hl (i % r.length) (Nat.mod_lt _ (by omega))
    have e : ∀ j, edgeV r (i % r.length + j) = edgeV r (i + j) := fun j => by
      have : i + j = (i % r.length + j) + (i / r.length) * r.length := by have := Nat.mod_add_div i r.length; rw [Nat.mul_comm] at this; omega
      rw [this]
      generalize i / r.length = c
      induction c with
      | zero => rw [Nat.zero_mul, Nat.add_zero]
      | succ c ih => rw [Nat.succ_mul, ← Nat.add_assoc, hper]; exact ih
    unfold leftAt at *
    rw [e 1, show edgeV r (i % r.length) = edgeV r i from e 0] at h
    exact h
  have hdist : ∀ i, rv r i ≠ rv r (i + 1) := fun i e => by
    have := leftAt_det.1 (hl' i)
    rw [e, det_same] at this
    omega
  have hk : (i0 + 1) % r.length < r.length := Nat.mod_lt _ (by omega)
  obtain ⟨k, hkd⟩ : ∃ k, k = (i0 + 1) % r.length := ⟨_, rfl⟩
  rw [← hkd] at hk
  refine ⟨k, hk, ?_⟩
  have hL := rotL_length (r := r) (Nat.le_of_lt hk)
  obtain ⟨s, hs⟩ : ∃ s, s = rotL k r := ⟨_, rfl⟩
  have hsv : ∀ i, rv s i = rv r (k + i) := fun i => by rw [hs]; exact rot_rv' hk i
  rw [← hs] at hL ⊢
  have hkm : ∀ j, rv r (k + j) = rv r (i0 + 1 + j) := fun j => by
    unfold rv
    rw [hkd, Nat.mod_add_mod]
  have hes : ∀ i, edgeV s i = edgeV r (i0 + 1 + i) := fun i => by
    unfold edgeV
    rw [hsv, hsv, hkm, hkm]
    rfl
  have hup0 : upB (edgeV s 0) = true := by
    rw [hes]
    unfold turnAt at hp0
    rw [Bool.and_eq_true] at hp0
    exact hp0.2
  have hlow : upB (edgeV s (s.length - 1)) = false := by
    rw [hes, hL, show i0 + 1 + (r.length - 1) = i0 + r.length by omega, hper]
    unfold turnAt at hp0
    rw [Bool.and_eq_true] at hp0
    simpa using hp0.1
  have hno : ∀ i, i + 1 < s.length → upB (edgeV s i) = false → upB (edgeV s (i + 1)) = false := fun i hi h => by
    cases q : upB (edgeV s (i + 1))
    · rfl
    · exfalso
      have hper2 : ∀ j, edgeV r (j % r.length) = edgeV r j := fun j => by
        unfold edgeV rv
        rw [Nat.mod_add_mod, Nat.mod_mod]
      have ht2 : turnAt r ((i0 + 1 + i) % r.length) = true := by
        unfold turnAt
        have e1 : edgeV r ((i0 + 1 + i) % r.length) = edgeV s i := by rw [hper2, hes]
        have e2 : edgeV r ((i0 + 1 + i) % r.length + 1) = edgeV s (i + 1) := by
          rw [hes]
          unfold edgeV rv
          rw [show (i0 + 1 + i) % r.length + 1 + 1 = (i0 + 1 + i) % r.length + 2 by omega, Nat.mod_add_mod, Nat.mod_add_mod]
          rfl
        rw [e1, e2, h, q]
        rfl
      have := hu _ (Nat.mod_lt _ (by omega)) ht2
      by_cases c : i0 + 1 + i < r.length
      · rw [Nat.mod_eq_of_lt c] at this; omega
      · rw [Nat.mod_eq_sub_mod (by omega), Nat.mod_eq_of_lt (by omega)] at this; omega
  obtain ⟨m, hm0, hmn, hmu, hml⟩ : ∃ m, 0 < m ∧ m < s.length ∧ (∀ i, i < m → upB (edgeV s i) = true) ∧ ∀ i, m ≤ i → i < s.length → upB (edgeV s i) = false := by
    have step : ∀ j, j < s.length → (∀ i, i ≤ j → upB (edgeV s i) = true) ∨ ∃ m, 0 < m ∧ m ≤ j ∧ (∀ i, i < m → upB (edgeV s i) = true) ∧ ∀ i, m ≤ i → i ≤ j → upB (edgeV s i) = false := by
      intro j
      induction j with
      | zero => exact fun _ => .inl fun i hi => by rw [show i = 0 by omega]; exact hup0
      | succ j ih =>
        intro hj
        rcases ih (by omega) with h | ⟨m, a, b, c, d⟩
        · cases q : upB (edgeV s (j + 1))
          · exact .inr ⟨j + 1, by omega, Nat.le_refl _, fun i hi => h i (by omega), fun i h1 h2 => by rw [show i = j + 1 by omega]; exact q⟩
          · exact .inl fun i hi => by
              by_cases e : i = j + 1
              · rw [e]; exact q
              · exact h i (by omega)
        · refine .inr ⟨m, a, by omega, c, fun i h1 h2 => ?_⟩
          by_cases e : i = j + 1
          · rw [e]; exact hno j hj (d j b (Nat.le_refl _))
          · exact d i h1 (by omega)
    rcases step (s.length - 1) (by omega) with h | ⟨m, a, b, c, d⟩
    · have := h (s.length - 1) (Nat.le_refl _)
      rw [hlow] at this
      cases this
    · exact ⟨m, a, by omega, c, fun i h1 h2 => d i h1 (by omega)⟩
  have hsn : ∀ i, near 20000 (rv s i) := fun i => by rw [hsv]; exact hn _ (rv_mem (by omega))
  have hsd : ∀ i, rv s i ≠ rv s (i + 1) := fun i => by rw [hsv, hsv]; exact hdist (k + i)
  have hst : ∀ i, 0 < det (rv s i) (rv s (i + 1)) (rv s (i + 2)) := fun i => by rw [hsv, hsv, hsv]; exact leftAt_det.1 (hl' (k + i))
  have e0 : ∀ i, i < s.length → rv s i = at0 s i := fun i hi => rv_lt hi
  have hup : Rise 1 40001 (fun i => at0 s i) m := by
    refine ⟨fun i hi => ?_, fun i hi => ?_⟩
    · have := upB_lexy.1 (hmu i hi)
      rw [e0 i (by omega), e0 (i + 1) (by omega)] at this
      exact lexy_lin (by rw [← e0 i (by omega)]; exact hsn i) (by rw [← e0 (i + 1) (by omega)]; exact hsn (i + 1)) this
    · have := hst i
      rw [e0 i (by omega), e0 (i + 1) (by omega), e0 (i + 2) (by omega)] at this
      exact this
  have hdn : Rise (-1) (-40001) (fun i => rv s (m + i)) (s.length - m) := by
    refine ⟨fun i hi => ?_, fun i hi => hst (m + i)⟩
    have := edge_ne (hml (m + i) (by omega) (by omega)) (hsd (m + i))
    have := lexy_lin (hsn _) (hsn _) this
    rw [lin_neg, lin_neg]
    have e : m + (i + 1) = m + i + 1 := rfl
    rw [e]
    omega
  have hH := ring_self (by omega) hm0 hmn hup hdn
  refine ⟨hH, fun q hq => ?_⟩
  obtain ⟨j, hj, rfl⟩ := mem_at hq
  obtain ⟨t, ht', e⟩ : ∃ t, t < s.length ∧ at0 s t = at0 r j := by
    refine ⟨(j + (r.length - k)) % r.length, by rw [hL]; exact Nat.mod_lt _ (by omega), ?_⟩
    rw [← rv_lt (by rw [hL]; exact Nat.mod_lt _ (by omega)), hsv]
    unfold rv
    rw [Nat.add_mod_mod, show k + (j + (r.length - k)) = j + r.length by omega, Nat.add_mod_right, Nat.mod_eq_of_lt hj]
  rw [← e, ← e0 0 (by omega)]
  rw [← e0 t ht']
  refine lin_lexy' (hsn 0) (hsn t) ?_
  by_cases q : t = 0
  · rw [q]; exact Int.le_refl _
  by_cases q2 : t ≤ m
  · have := hup.lt (i := 0) (j := t) (by omega) q2
    rw [e0 0 (by omega), e0 t ht']
    exact Int.le_of_lt this
  · have := hdn.lt (i := t - m) (j := s.length - m) (by omega) (Nat.le_refl _)
    simp only [lin_neg] at this
    rw [show m + (t - m) = t by omega, show m + (s.length - m) = s.length by omega, show rv s s.length = rv s 0 by unfold rv; rw [Nat.mod_self, Nat.zero_mod]] at this
    omega
end Go.Proofs.YtpbgimdbhgahkaaGreat
