/- Convex chains of points: sides, what a chain's stack keeps. No program here. -/
import Derived.Test.YticmfmcflikneaaLater
namespace Go.Proofs.Yticmfmcflikneaa
set_option linter.unusedVariables false

abbrev Pt := Int × Int
def det (a b c : Pt) : Int := (b.1 - a.1) * (c.2 - a.2) - (b.2 - a.2) * (c.1 - a.1)
/-- A linear form. -/
def lin (k l : Int) (p : Pt) : Int := k * p.1 + l * p.2

theorem pos_of_mul {a b : Int} (ha : 0 < a) (h : 0 < a * b) : 0 < b := by
  rcases Int.lt_or_le 0 b with hb | hb
  · exact hb
  · have := Int.mul_nonpos_of_nonneg_of_nonpos (Int.le_of_lt ha) hb; omega
theorem nonneg_of_mul {a b : Int} (ha : 0 < a) (h : 0 ≤ a * b) : 0 ≤ b := by
  rcases Int.lt_or_le b 0 with hb | hb
  · have := Int.mul_neg_of_pos_of_neg ha hb; omega
  · exact hb
theorem zero_of_mul {a b : Int} (ha : 0 < a) (h : a * b = 0) : b = 0 := by
  rcases Int.mul_eq_zero.1 h with h | h
  · omega
  · exact h
theorem det_self (a b : Pt) : det a b a = 0 := by unfold det; grind
theorem det_end (a b : Pt) : det a b b = 0 := by unfold det; grind
theorem det_same (a b : Pt) : det a a b = 0 := by unfold det; grind
theorem det_cycle (a b c : Pt) : det a b c = det b c a := by unfold det; grind
theorem det_swap (a b c : Pt) : det b a c = -det a b c := by unfold det; grind
theorem det_four (a b c d : Pt) : det b c d = det a b c + det a c d - det a b d := by unfold det; grind
/-- The relation of three vectors from a point. -/
theorem det_lin (k l : Int) (a b c d : Pt) : (lin k l c - lin k l a) * det a b d = (lin k l b - lin k l a) * det a c d + (lin k l d - lin k l a) * det a b c := by
  unfold det lin; grind

section
variable {k l : Int} {a b c d p q : Pt}
/-- Left turns join: of four points in ascending order. -/
theorem turn_skip (hbc : lin k l b < lin k l c) (hab : lin k l a < lin k l b) (hcd : lin k l c < lin k l d) (h1 : 0 < det a b c) (h2 : 0 < det b c d) : 0 < det a b d ∧ 0 < det a c d := by
  have e : (lin k l c - lin k l b) * det a b d = (lin k l c - lin k l a) * 0 + ((lin k l d - lin k l b) * det a b c + (lin k l b - lin k l a) * det b c d) := by
    unfold det lin; grind
  have e2 : (lin k l c - lin k l b) * det a c d = ((lin k l d - lin k l c) * det a b c + (lin k l c - lin k l a) * det b c d) := by
    unfold det lin; grind
  have m1 : 0 < (lin k l d - lin k l b) * det a b c := Int.mul_pos (by omega) h1
  have m2 : 0 < (lin k l b - lin k l a) * det b c d := Int.mul_pos (by omega) h2
  have m3 : 0 < (lin k l d - lin k l c) * det a b c := Int.mul_pos (by omega) h1
  have m4 : 0 < (lin k l c - lin k l a) * det b c d := Int.mul_pos (by omega) h2
  have hp : 0 < lin k l c - lin k l b := by omega
  exact ⟨pos_of_mul hp (by rw [e]; omega), pos_of_mul hp (by rw [e2]; omega)⟩
/-- What lies behind the top of the stack when the top is taken off. -/
theorem side_pop (hab : lin k l a < lin k l b) (hbp : lin k l b < lin k l p) (h : det a b p ≤ 0) (hq : lin k l a ≤ lin k l q) (hl : 0 ≤ det a b q) (ht : lin k l b ≤ lin k l q → 0 ≤ det b p q) : 0 ≤ det a p q := by
  rcases Int.lt_or_le (lin k l q) (lin k l b) with hlt | hge
  · have e : (lin k l b - lin k l a) * det a p q = (lin k l p - lin k l a) * det a b q + (lin k l q - lin k l a) * (-det a b p) := by unfold det lin; grind
    have m1 : 0 ≤ (lin k l p - lin k l a) * det a b q := Int.mul_nonneg (by omega) hl
    have m2 : 0 ≤ (lin k l q - lin k l a) * (-det a b p) := Int.mul_nonneg (by omega) (by omega)
    exact nonneg_of_mul (a := lin k l b - lin k l a) (by omega) (by rw [e]; omega)
  · have := ht hge
    have := det_four a b p q
    omega
/-- What lies ahead of the top when a point is laid on it. -/
theorem side_push (hab : lin k l a < lin k l b) (hbp : lin k l b < lin k l p) (h : 0 < det a b p) (hl : 0 ≤ det a b q) (hq : lin k l q < lin k l b) : 0 ≤ det b p q := by
  have e : (lin k l b - lin k l a) * det b p q = (lin k l p - lin k l b) * det a b q + (lin k l b - lin k l q) * det a b p := by unfold det lin; grind
  have m1 : 0 ≤ (lin k l p - lin k l b) * det a b q := Int.mul_nonneg (by omega) hl
  have m2 : 0 ≤ (lin k l b - lin k l q) * det a b p := Int.mul_nonneg (by omega) (by omega)
  exact nonneg_of_mul (a := lin k l b - lin k l a) (by omega) (by rw [e]; omega)
end

/-- The stack of a chain, its top ahead. -/
def popC (p : Pt) : List Pt → List Pt
  | b :: a :: r => if det a b p ≤ 0 then popC p (a :: r) else b :: a :: r
  | s => s
def chainC : List Pt → List Pt → List Pt
  | s, [] => s
  | s, p :: r => chainC (p :: popC p s) r
/-- Every edge of a stack (from the lower to the upper one). -/
def EdgesC (P : Pt → Pt → Prop) : List Pt → Prop
  | b :: a :: r => P a b ∧ EdgesC P (a :: r)
  | _ => True
def TurnsC : List Pt → Prop
  | c :: b :: a :: r => 0 < det a b c ∧ TurnsC (b :: a :: r)
  | _ => True
def DecC (k l : Int) (s : List Pt) : Prop := EdgesC (fun a b => lin k l a < lin k l b) s
theorem EdgesC.mono {P Q : Pt → Pt → Prop} (h : ∀ a b, P a b → Q a b) : ∀ {s}, EdgesC P s → EdgesC Q s
  | [], _ => trivial
  | [_], _ => trivial
  | b :: a :: r, ⟨h1, h2⟩ => ⟨h _ _ h1, EdgesC.mono h h2⟩
theorem EdgesC.tail {P : Pt → Pt → Prop} : ∀ {b : Pt} {s}, EdgesC P (b :: s) → EdgesC P s
  | _, [], _ => trivial
  | _, _ :: _, h => h.2
theorem TurnsC.tail : ∀ {b : Pt} {s}, TurnsC (b :: s) → TurnsC s
  | _, [], _ => trivial
  | _, [_], _ => trivial
  | _, _ :: _ :: _, h => h.2
theorem TurnsC.skip {k l : Int} {p b : Pt} : ∀ {s}, DecC k l (p :: b :: s) → TurnsC (p :: b :: s) → TurnsC (p :: s) ∧ DecC k l (p :: s)
  | [], _, _ => ⟨trivial, trivial⟩
  | [a], ⟨h1, h2⟩, _ => ⟨trivial, Int.lt_trans h2.1 h1, trivial⟩
  | a :: z :: r, ⟨h1, h2, h3⟩, ⟨t1, t2, t3⟩ => ⟨⟨(turn_skip h2 h3.1 h1 t2 t1).1, t3⟩, Int.lt_trans h2 h1, h3⟩
/-- Every edge behind a point turns left to it. -/
theorem edges_ahead {k l : Int} {p : Pt} : ∀ {s}, DecC k l (p :: s) → TurnsC (p :: s) → EdgesC (fun a b => 0 < det a b p) s
  | [], _, _ => trivial
  | [_], _, _ => trivial
  | b :: a :: r, hd, ht => ⟨ht.1, edges_ahead (TurnsC.skip hd ht).2 (TurnsC.skip hd ht).1⟩

/-- A stack over the points that were seen. -/
structure StackC (k l : Int) (seen s : List Pt) : Prop where
  sub : ∀ q ∈ s, q ∈ seen
  dec : DecC k l s
  turns : TurnsC s
  left : EdgesC (fun a b => ∀ q ∈ seen, 0 ≤ det a b q) s
  low : ∀ z ∈ s.getLast?, ∀ q ∈ seen, lin k l z ≤ lin k l q
theorem pop_inv {k l : Int} {seen : List Pt} {p : Pt} (hp : ∀ q ∈ seen, lin k l q < lin k l p) : ∀ {s : List Pt} {b : Pt}, StackC k l seen (b :: s) → (∀ q ∈ seen, lin k l b ≤ lin k l q → 0 ≤ det b p q) →
    StackC k l (p :: seen) (p :: popC p (b :: s)) ∧ (popC p (b :: s)).getLast? = (b :: s).getLast? ∧ (p :: popC p (b :: s)).head? = some p
  | [], b, h, ht => by
    have hb := h.sub b (by simp)
    have hlow := h.low b (by simp)
    refine ⟨⟨fun q hq => ?_, ⟨hp b hb, trivial⟩, trivial, ⟨fun q hq => ?_, trivial⟩, fun z hz q hq => ?_⟩, rfl, rfl⟩
    · simp [popC] at hq
      rcases hq with rfl | rfl
      · exact List.mem_cons_self
      · exact List.mem_cons_of_mem _ hb
    · rcases List.mem_cons.1 hq with rfl | hq
      · rw [det_end]; exact Int.le_refl _
      · exact ht q hq (hlow q hq)
    · simp [popC] at hz
      subst hz
      rcases List.mem_cons.1 hq with rfl | hq
      · exact Int.le_of_lt (hp _ hb)
      · exact hlow q hq
  | a :: r, b, h, ht => by
    have hb := h.sub b (by simp)
    have ha := h.sub a (by simp)
    by_cases hd : det a b p ≤ 0
    · have e : popC p (b :: a :: r) = popC p (a :: r) := by simp [popC, hd]
      rw [e]
      have h' : StackC k l seen (a :: r) := ⟨fun q hq => h.sub q (List.mem_cons_of_mem _ hq), h.dec.2, h.turns.tail, h.left.2, fun z hz => h.low z (by simpa using hz)⟩
      have := pop_inv hp h' (fun q hq hqa => side_pop (k := k) (l := l) h.dec.1 (hp b hb) hd hqa (h.left.1 q hq) (ht q hq))
      refine ⟨this.1, ?_, rfl⟩
      rw [this.2.1]; simp
    · have e : popC p (b :: a :: r) = b :: a :: r := by simp [popC, hd]
      rw [e]
      have hdec : DecC k l (p :: b :: a :: r) := ⟨hp b hb, h.dec⟩
      have htur : TurnsC (p :: b :: a :: r) := ⟨by omega, h.turns⟩
      refine ⟨⟨fun q hq => ?_, hdec, htur, ⟨fun q hq => ?_, ?_⟩, fun z hz q hq => ?_⟩, rfl, rfl⟩
      · rcases List.mem_cons.1 hq with rfl | hq
        · exact List.mem_cons_self
        · exact List.mem_cons_of_mem _ (h.sub q hq)
      · rcases List.mem_cons.1 hq with rfl | hq
        · rw [det_end]; exact Int.le_refl _
        · rcases Int.lt_or_le (lin k l q) (lin k l b) with hlt | hge
          · exact side_push (k := k) (l := l) h.dec.1 (hp b hb) (by omega) (h.left.1 q hq) hlt
          · exact ht q hq hge
      · have h1 := edges_ahead hdec htur
        have h2 := h.left
        revert h1 h2
        generalize (b :: a :: r) = s
        intro h1 h2
        clear hdec htur h ht e hd ha hb
        induction s with
        | nil => trivial
        | cons x s ih =>
          cases s with
          | nil => trivial
          | cons y s =>
            refine ⟨fun q hq => ?_, ih h1.2 h2.2⟩
            rcases List.mem_cons.1 hq with rfl | hq
            · exact Int.le_of_lt h1.1
            · exact h2.1 q hq
      · have hz' : z ∈ (b :: a :: r).getLast? := by simpa using hz
        rcases List.mem_cons.1 hq with rfl | hq
        · have hzm : z ∈ b :: a :: r := List.mem_of_getLast? hz'
          exact Int.le_of_lt (hp _ (h.sub z hzm))
        · exact h.low z hz' q hq
theorem StackC.perm {k l : Int} {seen seen' s : List Pt} (h : StackC k l seen s) (hm : ∀ q, q ∈ seen' ↔ q ∈ seen) : StackC k l seen' s :=
  ⟨fun q hq => (hm q).2 (h.sub q hq), h.dec, h.turns, h.left.mono fun a b hab q hq => hab q ((hm q).1 hq), fun z hz q hq => h.low z hz q ((hm q).1 hq)⟩
/-- The whole chain over ascending points. -/
theorem chain_inv {k l : Int} : ∀ {rest seen s : List Pt} {b : Pt}, StackC k l seen (b :: s) → (∀ q ∈ seen, lin k l q ≤ lin k l b) → (∀ q ∈ seen, lin k l q = lin k l b → q = b) → (b :: rest).Pairwise (fun x y => lin k l x < lin k l y) →
    StackC k l (rest.reverse ++ seen) (chainC (b :: s) rest) ∧ (chainC (b :: s) rest).getLast? = (b :: s).getLast? ∧ (chainC (b :: s) rest).head? = (b :: rest).getLast?
  | [], seen, s, b, h, _, _, _ => ⟨h, rfl, by simp [chainC]⟩
  | p :: rest, seen, s, b, h, hle, heq, hpw => by
    have hbp : lin k l b < lin k l p := (List.pairwise_cons.1 hpw).1 p (by simp)
    have hp : ∀ q ∈ seen, lin k l q < lin k l p := fun q hq => Int.lt_of_le_of_lt (hle q hq) hbp
    have h1 := pop_inv hp h (fun q hq hge => by
      have : q = b := heq q hq (Int.le_antisymm (hle q hq) hge)
      rw [this, ← det_cycle, det_same]; exact Int.le_refl _)
    have h2 := chain_inv (rest := rest) h1.1 (fun q hq => by
      rcases List.mem_cons.1 hq with rfl | hq
      · exact Int.le_refl _
      · exact Int.le_of_lt (hp q hq)) (fun q hq e => by
      rcases List.mem_cons.1 hq with rfl | hq
      · rfl
      · have := hp q hq; omega) (List.pairwise_cons.1 hpw).2
    refine ⟨?_, ?_, ?_⟩
    · have := h2.1
      exact this.perm fun q => by simp
    · show (chainC (p :: popC p (b :: s)) rest).getLast? = _
      rw [h2.2.1, ← h1.2.1]
      have : popC p (b :: s) ≠ [] := by
        intro e
        have := congrArg Option.isSome h1.2.1
        rw [e] at this
        simp at this
      cases hq : popC p (b :: s) with
      | nil => exact absurd hq this
      | cons x y => simp
    · show (chainC (p :: popC p (b :: s)) rest).head? = _
      rw [h2.2.2]; simp
end Go.Proofs.Yticmfmcflikneaa
