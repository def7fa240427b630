/- Convex chains of points: sides, what a chain's stack keeps. No program here. -/
import Derived.Test.YtpbgimdbhgahkaaGreatLater
namespace Go.Proofs.YtpbgimdbhgahkaaGreat
set_option linter.unusedVariables false

abbrev Pt := Int × Int
def det (a b c : Pt) : Int := (b.1 - a.1) * (c.2 - a.2) - (b.2 - a.2) * (c.1 - a.1)
/-- A linear form. -/
def lin (k l : Int) (p : Pt) : Int := k * p.1 + l * p.2

theorem pos_of_mul {a b : Int} (ha : 0 < a) (h : 0 < a * b) : 0 < b := by
  rcases Int.lt_or_le 0 b with hb | hb
  · exact hb
  · have := Int.mul_nonpos_of_nonneg_of_nonpos (Int.le_of_lt ha) hb; omega
theorem nonneg_of_mul {a b : Int} (ha : 0 < a) (h : 0 ≤ a * b) : 0 ≤ b := by
  rcases Int.lt_or_le b 0 with hb | hb
  · have := Int.mul_neg_of_pos_of_neg ha hb; omega
  · exact hb
theorem zero_of_mul {a b : Int} (ha : 0 < a) (h : a * b = 0) : b = 0 := by
  rcases Int.mul_eq_zero.1 h with h | h
  · omega
  · exact h
theorem det_self (a b : Pt) : det a b a = 0 := by unfold det; grind
theorem det_end (a b : Pt) : det a b b = 0 := by unfold det; grind
theorem det_same (a b : Pt) : det a a b = 0 := by unfold det; grind
theorem det_cycle (a b c : Pt) : det a b c = det b c a := by unfold det; grind
theorem det_swap (a b c : Pt) : det b a c = -det a b c := by unfold det; grind
theorem det_four (a b c d : Pt) : det b c d = det a b c + det a c d - det a b d := by unfold det; grind
/-- The relation of three vectors from a point. -/
theorem det_lin (k l : Int) (a b c d : Pt) : (lin k l c - lin k l a) * det a b d = (lin k l b - lin k l a) * det a c d + (lin k l d - lin k l a) * det a b c := by
  unfold det lin; grind

section
variable {k l : Int} {a b c d p q : Pt}
/-- Left turns join: of four points in ascending order. -/
theorem turn_skip (hbc : lin k l b < lin k l c) (hab : lin k l a < lin k l b) (hcd : lin k l c < lin k l d) (h1 : 0 < det a b c) (h2 : 0 < det b c d) : 0 < det a b d ∧ 0 < det a c d := by
  have e : (lin k l c - lin k l b) * det a b d = (lin k l c - lin k l a) * 0 + ((lin k l d - lin k l b) * det a b c + (lin k l b - lin k l a) * det b c d) := by
    unfold det lin; grind
  have e2 : (lin k l c - lin k l b) * det a c d = ((lin k l d - lin k l c) * det a b c + (lin k l c - lin k l a) * det b c d) := by
    unfold det lin; grind
  have m1 : 0 < (lin k l d - lin k l b) * det a b c := Int.mul_pos (by omega) h1
  have m2 : 0 < (lin k l b - lin k l a) * det b c d := Int.mul_pos (by omega) h2
  have m3 : 0 < (lin k l d - lin k l c) * det a b c := Int.mul_pos (by omega) h1
  have m4 : 0 < (lin k l c - lin k l a) * det b c d := Int.mul_pos (by omega) h2
  have hp : 0 < lin k l c - lin k l b := by omega
  exact ⟨pos_of_mul hp (by rw [e]; omega), pos_of_mul hp (by rw [e2]; omega)⟩
/-- What lies behind the top of the stack when the top is taken off. -/
theorem side_pop (hab : lin k l a < lin k l b) (hbp : lin k l b < lin k l p) (h : det a b p ≤ 0) (hq : lin k l a ≤ lin k l q) (hl : 0 ≤ det a b q) (ht : lin k l b ≤ lin k l q → 0 ≤ det b p q) : 0 ≤ det a p q := by
  rcases Int.lt_or_le (lin k l q) (lin k l b) with hlt | hge
  · have e : (lin k l b - lin k l a) * det a p q = (lin k l p - lin k l a) * det a b q + (lin k l q - lin k l a) * (-det a b p) := by unfold det lin; grind
    have m1 : 0 ≤ (lin k l p - lin k l a) * det a b q := Int.mul_nonneg (by omega) hl
    have m2 : 0 ≤ (lin k l q - lin k l a) * (-det a b p) := Int.mul_nonneg (by omega) (by omega)
    exact nonneg_of_mul (a := lin k l b - lin k l a) (by omega) (by rw [e]; omega)
  · have := ht hge
    have := det_four a b p q
    omega
/-- What lies ahead of the top when a point is laid on it. -/
theorem side_push (hab : lin k l a < lin k l b) (hbp : lin k l b < lin k l p) (h : 0 < det a b p) (hl : 0 ≤ det a b q) (hq : lin k l q < lin k l b) : 0 ≤ det b p q := by
  have e : (lin k l b - lin k l a) * det b p q = (lin k l p - lin k l b) * det a b q + (lin k l b - lin k l q) * det a b p := by unfold det lin; grind
  have m1 : 0 ≤ (lin k l p - lin k l b) * det a b q := Int.mul_nonneg (by omega) hl
  have m2 : 0 ≤ (lin k l b - lin k l q) * det a b p := Int.mul_nonneg (by omega) (by omega)
  exact nonneg_of_mul (a := lin k l b - lin k l a) (by omega) (by rw [e]; omega)
end

/-- The stack of a chain, its top ahead. -/
def popC (p : Pt) : List Pt → List Pt
  | b :: a :: r => if det a b p ≤ 0 then popC p (a :: r) else b :: a :: r
  | s => s
def chainC : List Pt → List Pt → List Pt
  | s, [] => s
  | s, p :: r => chainC (p :: popC p s) r
/-- Every edge of a stack (from the lower to the upper one). -/
def EdgesC (P : Pt → Pt → Prop) : List Pt → Prop
  | b :: a :: r => P a b ∧ EdgesC P (a :: r)
  | _ => True
def TurnsC : List Pt → Prop
  | c :: b :: a :: r => 0 < det a b c ∧ TurnsC (b :: a :: r)
  | _ => True
def DecC (k l : Int) (s : List Pt) : Prop := EdgesC (fun a b => lin k l a < lin k l b) s
theorem EdgesC.mono {P Q : Pt → Pt → Prop} (h : ∀ a b, P a b → Q a b) : ∀ {s}, EdgesC P s → EdgesC Q s
  | [], _ => trivial
  | [_], _ => trivial
  | b :: a :: r, ⟨h1, h2⟩ => ⟨h _ _ h1, EdgesC.mono h h2⟩
theorem EdgesC.tail {P : Pt → Pt → Prop} : ∀ {b : Pt} {s}, EdgesC P (b :: s) → EdgesC P s
  | _, [], _ => trivial
  | _, _ :: _, h => h.2
theorem TurnsC.tail : ∀ {b : Pt} {s}, TurnsC (b :: s) → TurnsC s
  | _, [], _ => trivial
  | _, [_], _ => trivial
  | _, _ :: _ :: _, h => h.2
theorem TurnsC.skip {k l : Int} {p b : Pt} : ∀ {s}, DecC k l (p :: b :: s) → TurnsC (p :: b :: s) → TurnsC (p :: s) ∧ DecC k l (p :: s)
  | [], _, _ => ⟨trivial, trivial⟩
  | [a], ⟨h1, h2⟩, _ => ⟨trivial, Int.lt_trans h2.1 h1, trivial⟩
  | a :: z :: r, ⟨h1, h2, h3⟩, ⟨t1, t2, t3⟩ => ⟨⟨(turn_skip h2 h3.1 h1 t2 t1).1, t3⟩, Int.lt_trans h2 h1, h3⟩
/-- Every edge behind a point turns left to it. -/
theorem edges_ahead {k l : Int} {p : Pt} : ∀ {s}, DecC k l (p :: s) → TurnsC (p :: s) → EdgesC (fun a b => 0 < det a b p) s
  | [], _, _ => trivial
  | [_], _, _ => trivial
  | b :: a :: r, hd, ht => ⟨ht.1, edges_ahead (TurnsC.skip hd ht).2 (TurnsC.skip hd ht).1⟩

/-- A stack over the points that were seen. -/
structure StackC (k l : Int) (seen s : List Pt) : Prop where
  sub : ∀ q ∈ s, q ∈ seen
  dec : DecC k l s
  turns : TurnsC s
  left : EdgesC (fun a b => ∀ q ∈ seen, 0 ≤ det a b q) s
  low : ∀ z ∈ s.getLast?, ∀ q ∈ seen, lin k l z ≤ lin k l q
theorem pop_inv {k l : Int} {seen : List Pt} {p : Pt} (hp : ∀ q ∈ seen, lin k l q < lin k l p) : ∀ {s : List Pt} {b : Pt}, StackC k l seen (b :: s) → (∀ q ∈ seen, lin k l b ≤ lin k l q → 0 ≤ det b p q) →
    StackC k l (p :: seen) (p :: popC p (b :: s)) ∧ (popC p (b :: s)).getLast? = (b :: s).getLast? ∧ (p :: popC p (b :: s)).head? = some p
  | [], b, h, ht => by
    have hb := h.sub b (by simp)
    have hlow := h.low b (by simp)
    refine ⟨⟨fun q hq => ?_, ⟨hp b hb, trivial⟩, trivial, ⟨fun q hq => ?_, trivial⟩, fun z hz q hq => ?_⟩, rfl, rfl⟩
    · simp [popC] at hq
      rcases hq with rfl | rfl
      · exact List.mem_cons_self
      · exact List.mem_cons_of_mem _ hb
    · rcases List.mem_cons.1 hq with rfl | hq
      · rw [det_end]; exact Int.le_refl _
      · exact ht q hq (hlow q hq)
    · simp [popC] at hz
      subst hz
      rcases List.mem_cons.1 hq with rfl | hq
      · exact Int.le_of_lt (hp _ hb)
      · exact hlow q hq
  | a :: r, b, h, ht => by
    have hb := h.sub b (by simp)
    have ha := h.sub a (by simp)
    by_cases hd : det a b p ≤ 0
    · have e : popC p (b :: a :: r) = popC p (a :: r) := by simp [popC, hd]
      rw [e]
      have h' : StackC k l seen (a :: r) := ⟨fun q hq => h.sub q (List.mem_cons_of_mem _ hq), h.dec.2, h.turns.tail, h.left.2, fun z hz => h.low z (by simpa using hz)⟩
      have := pop_inv hp h' (fun q hq hqa => side_pop (k := k) (l := l) h.dec.1 (hp b hb) hd hqa (h.left.1 q hq) (ht q hq))
      refine ⟨this.1, ?_, rfl⟩
      rw [this.2.1]; simp
    · have e : popC p (b :: a :: r) = b :: a :: r := by simp [popC, hd]
      rw [e]
      have hdec : DecC k l (p :: b :: a :: r) := ⟨hp b hb, h.dec⟩
      have htur : TurnsC (p :: b :: a :: r) := ⟨by omega, h.turns⟩
      refine ⟨⟨fun q hq => ?_, hdec, htur, ⟨fun q hq => ?_, ?_⟩, fun z hz q hq => ?_⟩, rfl, rfl⟩
      · rcases List.mem_cons.1 hq with rfl | hq
        · exact List.mem_cons_self
        · exact List.mem_cons_of_mem _ (h.sub q hq)
      · rcases List.mem_cons.1 hq with rfl | hq
        · rw [det_end]; exact Int.le_refl _
        · rcases Int.lt_or_le (lin k l q) (lin k l b) with hlt | hge
          · exact side_push (k := k) (l := l) h.dec.1 (hp b hb) (by omega) (h.left.1 q hq) hlt
          · exact ht q hq hge
      · have h1 := edges_ahead hdec htur
        have h2 := h.left
        revert h1 h2
        generalize (b :: a :: r) = s
        intro h1 h2
        clear hdec htur h ht e hd ha hb
        induction s with
        | nil => trivial
        | cons x s ih =>
          cases s with
          | nil => trivial
          | cons y s =>
            refine ⟨fun q hq => ?_, ih h1.2 h2.2⟩
            rcases List.mem_cons.1 hq with rfl | hq
            · exact Int.le_of_lt h1.1
            · exact h2.1 q hq
      · have hz' : z ∈ (b :: a :: r).getLast? := by simpa using hz
        rcases List.mem_cons.1 hq with rfl | hq
        · have hzm : z ∈ b :: a :: r := List.mem_of_getLast? hz'
          exact Int.le_of_lt (hp _ (h.sub z hzm))
        · exact h.low z hz' q hq
theorem StackC.perm {k l : Int} {seen seen' s : List Pt} (h : StackC k l seen s) (hm : ∀ q, q ∈ seen' ↔ q ∈ seen) : StackC k l seen' s :=
  ⟨fun q hq => (hm q).2 (h.sub q hq), h.dec, h.turns, h.left.mono fun a b hab q hq => hab q ((hm q).1 hq), fun z hz q hq => h.low z hz q ((hm q).1 hq)⟩
/-- The whole chain over ascending points. -/
theorem chain_inv {k l : Int} : ∀ {rest seen s : List Pt} {b : Pt}, StackC k l seen (b :: s) → (∀ q ∈ seen, lin k l q ≤ lin k l b) → (∀ q ∈ seen, lin k l q = lin k l b → q = b) → (b :: rest).Pairwise (fun x y => lin k l x < lin k l y) →
    StackC k l (rest.reverse ++ seen) (chainC (b :: s) rest) ∧ (chainC (b :: s) rest).getLast? = (b :: s).getLast? ∧ (chainC (b :: s) rest).head? = (b :: rest).getLast?
  | [], seen, s, b, h, _, _, _ => ⟨h, rfl, by simp [chainC]⟩
  | p :: rest, seen, s, b, h, hle, heq, hpw => by
    have hbp : lin k l b < lin k l p := (List.pairwise_cons.1 hpw).1 p (by simp)
    have hp : ∀ q ∈ seen, lin k l q < lin k l p := fun q hq => Int.lt_of_le_of_lt (hle q hq) hbp
    have h1 := pop_inv hp h (fun q hq hge => by
      have : q = b := heq q hq (Int.le_antisymm (hle q hq) hge)
      rw [this, ← det_cycle, det_same]; exact Int.le_refl _)
    have h2 := chain_inv (rest := rest) h1.1 (fun q hq => by
      rcases List.mem_cons.1 hq with rfl | hq
      · exact Int.le_refl _
      · exact Int.le_of_lt (hp q hq)) (fun q hq e => by
      rcases List.mem_cons.1 hq with rfl | hq
      · rfl
      · have := hp q hq; omega) (List.pairwise_cons.1 hpw).2
    refine ⟨?_, ?_, ?_⟩
    · have := h2.1
      exact this.perm fun q => by simp
    · show (chainC (p :: popC p (b :: s)) rest).getLast? = _
      rw [h2.2.1, ← h1.2.1]
      have : popC p (b :: s) ≠ [] := by
        intro e
        have := congrArg Option.isSome h1.2.1
        rw [e] at this
        simp at this
      cases hq : popC p (b :: s) with
      | nil => exact absurd hq this
      | cons x y => simp
    · show (chainC (p :: popC p (b :: s)) rest).head? = _
      rw [h2.2.2]; simp
end Go.Proofs.YtpbgimdbhgahkaaGreat
/- Convex chains as paths; the ring out of a lower and an upper chain. No program here. -/
namespace Go.Proofs.YtpbgimdbhgahkaaGreat
set_option linter.unusedVariables false

def at0 (c : List Pt) (i : Nat) : Pt := c.getD i (0, 0)
theorem at0_eq {c : List Pt} {i : Nat} (h : i < c.length) : at0 c i = c[i] := by
  unfold at0; rw [List.getD_eq_getElem?_getD, List.getElem?_eq_getElem h, Option.getD_some]
theorem at0_mem {c : List Pt} {i : Nat} (h : i < c.length) : at0 c i ∈ c := by rw [at0_eq h]; exact List.getElem_mem h

theorem TurnsC.skip2 {k l : Int} {p b : Pt} : ∀ {a : Pt} {s}, DecC k l (p :: b :: a :: s) → TurnsC (p :: b :: a :: s) → TurnsC (p :: b :: s) ∧ DecC k l (p :: b :: s)
  | a, [], hd, _ => ⟨trivial, hd.1, trivial⟩
  | a, z :: s, ⟨h1, h2, h3, h4⟩, ⟨t1, t2, t3⟩ => ⟨⟨(turn_skip h2 h3 h1 t2 t1).2, (TurnsC.skip (k := k) (l := l) (p := b) (b := a) (s := z :: s) ⟨h2, h3, h4⟩ ⟨t2, t3⟩).1⟩, h1, Int.lt_trans h3 h2, h4⟩
theorem turns_one {k l : Int} {p b : Pt} : ∀ {s}, DecC k l (p :: b :: s) → TurnsC (p :: b :: s) → ∀ j, j < s.length → 0 < det (at0 s j) b p
  | [], _, _, j, hj => by simp at hj
  | a :: s, hd, ht, 0, _ => ht.1
  | a :: s, hd, ht, j + 1, hj => turns_one (TurnsC.skip2 hd ht).2 (TurnsC.skip2 hd ht).1 j (by simpa using hj)
theorem turns_two {k l : Int} {p : Pt} : ∀ {s}, DecC k l (p :: s) → TurnsC (p :: s) → ∀ i j, i < j → j < s.length → 0 < det (at0 s j) (at0 s i) p
  | [], _, _, i, j, _, hj => by simp at hj
  | b :: s, hd, ht, 0, j + 1, _, hj => turns_one hd ht j (by simpa using hj)
  | b :: s, hd, ht, i + 1, j + 1, h, hj => turns_two (TurnsC.skip hd ht).2 (TurnsC.skip hd ht).1 i j (by omega) (by simpa using hj)
theorem turns_all {k l : Int} : ∀ {s}, DecC k l s → TurnsC s → ∀ i j m, i < j → j < m → m < s.length → 0 < det (at0 s m) (at0 s j) (at0 s i)
  | [], _, _, i, j, m, _, _, hm => by simp at hm
  | p :: s, hd, ht, 0, j + 1, m + 1, h1, h2, hm => turns_two hd ht j m (by omega) (by simpa using hm)
  | p :: s, hd, ht, i + 1, j + 1, m + 1, h1, h2, hm => turns_all (s := s) hd.tail ht.tail i j m (by omega) (by omega) (by simpa using hm)
theorem EdgesC.at_ {P : Pt → Pt → Prop} : ∀ {s}, EdgesC P s → ∀ i, i + 1 < s.length → P (at0 s (i + 1)) (at0 s i)
  | [], _, i, h => by simp at h
  | [_], _, i, h => by simp at h
  | b :: a :: s, h, 0, _ => h.1
  | b :: a :: s, h, i + 1, hi => EdgesC.at_ (s := a :: s) h.2 i (by simpa using hi)

/-- A path of points that turns left, everything on its left side. -/
structure Chain (k l : Int) (pts c : List Pt) : Prop where
  asc : ∀ i, i + 1 < c.length → lin k l (at0 c i) < lin k l (at0 c (i + 1))
  strict : ∀ i j m, i < j → j < m → m < c.length → 0 < det (at0 c i) (at0 c j) (at0 c m)
  left : ∀ i, i + 1 < c.length → ∀ q ∈ pts, 0 ≤ det (at0 c i) (at0 c (i + 1)) q
  sub : ∀ q ∈ c, q ∈ pts
theorem at0_reverse {s : List Pt} {i : Nat} (h : i < s.length) : at0 s.reverse i = at0 s (s.length - 1 - i) := by
  rw [at0_eq (by simpa using h), at0_eq (by omega), List.getElem_reverse]
theorem StackC.chain {k l : Int} {pts s : List Pt} (h : StackC k l pts s) : Chain k l pts s.reverse := by
  refine ⟨fun i hi => ?_, fun i j m hij hjm hm => ?_, fun i hi q hq => ?_, fun q hq => h.sub q (by simpa using hq)⟩
  · rw [List.length_reverse] at hi
    rw [at0_reverse (by omega), at0_reverse (by omega)]
    have := h.dec.at_ (s.length - 1 - (i + 1)) (by omega)
    rwa [show s.length - 1 - (i + 1) + 1 = s.length - 1 - i by omega] at this
  · rw [List.length_reverse] at hm
    rw [at0_reverse (by omega), at0_reverse (by omega), at0_reverse (by omega)]
    exact turns_all h.dec h.turns _ _ _ (by omega) (by omega) (by omega)
  · rw [List.length_reverse] at hi
    rw [at0_reverse (by omega), at0_reverse (by omega)]
    have := h.left.at_ (s.length - 1 - (i + 1)) (by omega) q hq
    rwa [show s.length - 1 - (i + 1) + 1 = s.length - 1 - i by omega] at this

/-- A corner lies on no edge of the opposite chain. -/
theorem corner_off {k l : Int} {x y a q b : Pt} (hxy : lin k l x < lin k l y) (h1 : lin k l b < lin k l q) (h2 : lin k l q < lin k l a) (ht : 0 < det a q b)
    (hax : 0 ≤ det a q x) (hbx : 0 ≤ det q b x) (hay : 0 ≤ det a q y) (hby : 0 ≤ det q b y) (ga : 0 ≤ det x y a) (gq : 0 ≤ det x y q) (gb : 0 ≤ det x y b) : 0 < det x y q := by
  rcases Int.lt_or_le 0 (det x y q) with h | h
  · exact h
  · exfalso
    have g0 : det x y q = 0 := by omega
    rcases Int.lt_or_le 0 (det x y b) with hb | hb
    · rcases Int.lt_or_le 0 (det x y a) with ha | ha
      · have ex : det a q b * det x y x = det a q x * (det x y b) + det q b x * (det x y a) + det x y q * (det a q b - det a q x - det q b x) := by unfold det; grind
        have ey : det a q b * det x y y = det a q y * (det x y b) + det q b y * (det x y a) + det x y q * (det a q b - det a q y - det q b y) := by unfold det; grind
        rw [det_self, g0] at ex
        rw [det_end, g0] at ey
        have m1 := Int.mul_nonneg hax (Int.le_of_lt hb)
        have m2 := Int.mul_nonneg hbx (Int.le_of_lt ha)
        have m3 := Int.mul_nonneg hay (Int.le_of_lt hb)
        have m4 := Int.mul_nonneg hby (Int.le_of_lt ha)
        have z1 : det x y b * det a q x = 0 := by rw [Int.mul_comm]; omega
        have z2 : det x y a * det q b x = 0 := by rw [Int.mul_comm]; omega
        have z3 : det x y b * det a q y = 0 := by rw [Int.mul_comm]; omega
        have z4 : det x y a * det q b y = 0 := by rw [Int.mul_comm]; omega
        have y1 := zero_of_mul hb z1
        have y2 := zero_of_mul ha z2
        have y3 := zero_of_mul hb z3
        have y4 := zero_of_mul ha z4
        have e : det a q b * (lin k l y - lin k l x) = (det a q y - det a q x) * (lin k l b - lin k l q) + (det q b y - det q b x) * (lin k l a - lin k l q) := by unfold det lin; grind
        rw [y1, y2, y3, y4] at e
        have := Int.mul_pos ht (show 0 < lin k l y - lin k l x by omega)
        omega
      · have ga0 : det x y a = 0 := by omega
        have e : (lin k l y - lin k l x) * det a q b = (lin k l q - lin k l a) * (det x y b) + (lin k l a - lin k l b) * det x y q + (lin k l b - lin k l q) * det x y a := by unfold det lin; grind
        rw [g0, ga0] at e
        have m1 := Int.mul_pos (show 0 < lin k l y - lin k l x by omega) ht
        have m2 : (lin k l q - lin k l a) * det x y b ≤ 0 := Int.mul_nonpos_of_nonpos_of_nonneg (by omega) gb
        omega
    · have gb0 : det x y b = 0 := by omega
      have e : (lin k l y - lin k l x) * det a q b = (lin k l q - lin k l a) * (det x y b) + (lin k l a - lin k l b) * det x y q + (lin k l b - lin k l q) * det x y a := by unfold det lin; grind
      rw [g0, gb0] at e
      have m1 := Int.mul_pos (show 0 < lin k l y - lin k l x by omega) ht
      have m2 : (lin k l b - lin k l q) * det x y a ≤ 0 := Int.mul_nonpos_of_nonpos_of_nonneg (by omega) ga
      omega
end Go.Proofs.YtpbgimdbhgahkaaGreat
/- The ring out of a lower and an upper chain; what a hull is; linear forms over a hull. No program here. -/
namespace Go.Proofs.YtpbgimdbhgahkaaGreat
set_option linter.unusedVariables false

/-- The vertex i of a ring. -/
def rv (r : List Pt) (i : Nat) : Pt := at0 r (i % r.length)
structure IsHull (pts r : List Pt) : Prop where
  three : 3 ≤ r.length
  convex : ∀ i k, i < r.length → k < r.length → k ≠ i → k ≠ (i + 1) % r.length → 0 < det (at0 r i) (rv r (i + 1)) (at0 r k)
  left : ∀ i, i < r.length → ∀ q ∈ pts, 0 ≤ det (at0 r i) (rv r (i + 1)) q
  sub : ∀ q ∈ r, q ∈ pts

theorem cone (k l : Int) {a v b q : Pt} (h : 0 < det a v b) (h1 : 0 ≤ det a v q) (h2 : 0 ≤ det v b q) (ha : lin k l v ≤ lin k l a) (hb : lin k l v ≤ lin k l b) : lin k l v ≤ lin k l q := by
  have e : det a v b * (lin k l q - lin k l v) = det a v q * (lin k l b - lin k l v) + det v b q * (lin k l a - lin k l v) := by unfold det lin; grind
  have m1 : 0 ≤ det a v q * (lin k l b - lin k l v) := Int.mul_nonneg h1 (by omega)
  have m2 : 0 ≤ det v b q * (lin k l a - lin k l v) := Int.mul_nonneg h2 (by omega)
  have := nonneg_of_mul (b := lin k l q - lin k l v) h (by rw [e]; omega)
  omega
theorem exists_least (f : Pt → Int) : ∀ {r : List Pt}, r ≠ [] → ∃ i, i < r.length ∧ ∀ q ∈ r, f (at0 r i) ≤ f q
  | [], h => absurd rfl h
  | [a], _ => ⟨0, by simp, fun q hq => by simp at hq; subst hq; simp [at0]⟩
  | a :: b :: r, _ => by
    obtain ⟨i, hi, hm⟩ := exists_least f (r := b :: r) (by simp)
    rcases Int.lt_or_le (f (at0 (b :: r) i)) (f a) with h | h
    · refine ⟨i + 1, by simpa using hi, fun q hq => ?_⟩
      show f (at0 (b :: r) i) ≤ f q
      rcases List.mem_cons.1 hq with rfl | hq
      · omega
      · exact hm q hq
    · refine ⟨0, by simp, fun q hq => ?_⟩
      show f a ≤ f q
      rcases List.mem_cons.1 hq with rfl | hq
      · omega
      · have := hm q hq; omega
/-- The corner at a vertex: the vertices ahead of and behind it. -/
theorem IsHull.corner {pts r : List Pt} (h : IsHull pts r) {i : Nat} (hi : i < r.length) : ∃ j, j < r.length ∧ rv r (j + 1) = at0 r i ∧ 0 < det (at0 r j) (at0 r i) (rv r (i + 1)) ∧ (∀ q ∈ pts, 0 ≤ det (at0 r j) (at0 r i) q) ∧ (j + 1) % r.length = i := by
  have h3 := h.three
  obtain ⟨j, hj, hji⟩ : ∃ j, j < r.length ∧ (j + 1) % r.length = i := by
    rcases Nat.eq_zero_or_pos i with rfl | hp
    · exact ⟨r.length - 1, by omega, by rw [show r.length - 1 + 1 = r.length by omega, Nat.mod_self]⟩
    · exact ⟨i - 1, by omega, by rw [show i - 1 + 1 = i by omega, Nat.mod_eq_of_lt hi]⟩
  have e : rv r (j + 1) = at0 r i := by unfold rv; rw [hji]
  refine ⟨j, hj, e, ?_, fun q hq => by have := h.left j hj q hq; rwa [e] at this, hji⟩
  have hn : (i + 1) % r.length < r.length := Nat.mod_lt _ (by omega)
  have := h.convex j ((i + 1) % r.length) hj hn ?_ ?_
  · rwa [e] at this
  · intro he
    rcases Nat.lt_or_ge (i + 1) r.length with h1 | h1
    · rw [Nat.mod_eq_of_lt h1] at he
      rcases Nat.lt_or_ge (j + 1) r.length with h2 | h2
      · rw [Nat.mod_eq_of_lt h2] at hji; omega
      · have : j + 1 = r.length := by omega
        rw [this, Nat.mod_self] at hji; omega
    · have : i + 1 = r.length := by omega
      rw [this, Nat.mod_self] at he
      rw [← he, Nat.mod_eq_of_lt (by omega)] at hji; omega
  · rw [hji]
    intro he
    rcases Nat.lt_or_ge (i + 1) r.length with h1 | h1
    · rw [Nat.mod_eq_of_lt h1] at he; omega
    · have : i + 1 = r.length := by omega
      rw [this, Nat.mod_self] at he; omega
/-- A linear form is least at a vertex. -/
theorem IsHull.least {pts r : List Pt} (h : IsHull pts r) (k l : Int) : ∃ i, i < r.length ∧ ∀ q, q ∈ pts → lin k l (at0 r i) ≤ lin k l q := by
  have h3 := h.three
  obtain ⟨i, hi, hm⟩ := exists_least (lin k l) (r := r) (by intro e; rw [e] at h3; simp at h3)
  obtain ⟨j, hj, e, hc, hl, -⟩ := h.corner hi
  refine ⟨i, hi, fun q hq => cone k l hc (hl q hq) (h.left i hi q hq) (hm _ (at0_mem hj)) (hm _ (at0_mem (Nat.mod_lt _ (by omega))))⟩
/-- What lies to the left of all vertices' ... a form that is not negative at the vertices is so at all points. -/
theorem lin_of_det (a b : Pt) : ∃ k l c : Int, ∀ q, det a b q = lin k l q + c :=
  ⟨-(b.2 - a.2), b.1 - a.1, -(b.1 - a.1) * a.2 + (b.2 - a.2) * a.1, fun q => by unfold det lin; grind⟩
theorem IsHull.side {pts r : List Pt} (h : IsHull pts r) (a b : Pt) (hv : ∀ v ∈ r, 0 ≤ det a b v) : ∀ q ∈ pts, 0 ≤ det a b q := by
  obtain ⟨k, l, c, e⟩ := lin_of_det a b
  obtain ⟨i, hi, hm⟩ := h.least k l
  intro q hq
  have h1 := hm q hq
  have h2 := hv _ (at0_mem hi)
  rw [e] at h2 ⊢
  omega

/-- The ring of two chains. -/
theorem hull_ring {k l : Int} {pts lo up : List Pt} (hlo : Chain k l pts lo) (hup : Chain (-k) (-l) pts up) (h2 : 2 ≤ lo.length) (hu2 : 2 ≤ up.length)
    (hj : at0 up 0 = at0 lo (lo.length - 1)) (hz : at0 up (up.length - 1) = at0 lo 0) (h3 : 3 ≤ lo.length - 1 + (up.length - 1)) : IsHull pts (lo.dropLast ++ up.dropLast) := by
  obtain ⟨p, hp⟩ : ∃ p, lo.length = p + 1 := ⟨lo.length - 1, by omega⟩
  obtain ⟨m, hm⟩ : ∃ m, up.length = m + 1 := ⟨up.length - 1, by omega⟩
  have hn : (lo.dropLast ++ up.dropLast).length = p + m := by simp [hp, hm]
  have g1 : ∀ i, i < p → at0 (lo.dropLast ++ up.dropLast) i = at0 lo i := fun i hi => by
    rw [at0_eq (by omega), at0_eq (by omega), List.getElem_append_left (by simp; omega), List.getElem_dropLast]
  have g2 : ∀ j, j < m → at0 (lo.dropLast ++ up.dropLast) (p + j) = at0 up j := fun j hj' => by
    rw [at0_eq (by omega), at0_eq (by omega), List.getElem_append_right (by simp [hp]), List.getElem_dropLast]
    congr 1
    simp [hp]
  rw [hp] at hj; rw [hm] at hz
  simp only [Nat.add_sub_cancel] at hj hz
  have g3 : ∀ i, i ≤ p → at0 (lo.dropLast ++ up.dropLast) i = at0 lo i := fun i hi => by
    rcases Nat.lt_or_ge i p with h | h
    · exact g1 i h
    · have : i = p + 0 := by omega
      rw [this, g2 0 (by omega), hj]; rfl
  have g4 : ∀ i, i < p → rv (lo.dropLast ++ up.dropLast) (i + 1) = at0 lo (i + 1) := fun i hi => by
    unfold rv; rw [hn, Nat.mod_eq_of_lt (by omega), g3 _ (by omega)]
  have g5 : ∀ j, j < m → rv (lo.dropLast ++ up.dropLast) (p + j + 1) = at0 up (j + 1) := fun j hj' => by
    unfold rv; rw [hn]
    rcases Nat.lt_or_ge (j + 1) m with h | h
    · rw [Nat.mod_eq_of_lt (by omega), show p + j + 1 = p + (j + 1) by omega, g2 _ h]
    · have : j + 1 = m := by omega
      rw [show p + j + 1 = p + m by omega, Nat.mod_self, g1 0 (by omega), this, hz]
  have hul : ∀ q : Pt, lin (-k) (-l) q = -lin k l q := fun q => by unfold lin; grind
  refine ⟨by omega, fun i kk hi hk hki hk1 => ?_, fun i hi q hq => ?_, fun q hq => ?_⟩
  · rw [hn] at hi hk hk1
    rcases Nat.lt_or_ge i p with hip | hip
    · rw [g1 i hip, g4 i hip]
      rw [Nat.mod_eq_of_lt (by omega)] at hk1
      rcases Nat.lt_or_ge p kk with hkp | hkp
      · obtain ⟨j, rfl⟩ : ∃ j, kk = p + j := ⟨kk - p, by omega⟩
        rw [g2 j (by omega)]
        have u1 := hup.asc (j - 1) (by omega)
        have u2 := hup.asc j (by omega)
        rw [hul, hul] at u1 u2
        rw [show j - 1 + 1 = j by omega] at u1
        have l1 := hup.left (j - 1) (by omega)
        rw [show j - 1 + 1 = j by omega] at l1
        have l2 := hup.left j (by omega)
        have lm1 : at0 lo i ∈ pts := hlo.sub _ (at0_mem (by omega))
        have lm2 : at0 lo (i + 1) ∈ pts := hlo.sub _ (at0_mem (by omega))
        refine corner_off (k := k) (l := l) (a := at0 up (j - 1)) (b := at0 up (j + 1)) (hlo.asc i (by omega)) (by omega) (by omega) (hup.strict _ _ _ (by omega) (by omega) (by omega)) (l1 _ lm1) (l2 _ lm1) (l1 _ lm2) (l2 _ lm2) ?_ ?_ ?_
        all_goals exact hlo.left i (by omega) _ (hup.sub _ (at0_mem (by omega)))
      · rw [g3 kk hkp]
        rcases Nat.lt_or_ge kk i with h | h
        · rw [← det_cycle]; exact hlo.strict _ _ _ h (by omega) (by omega)
        · exact hlo.strict _ _ _ (by omega) (by omega) (by omega)
    · obtain ⟨j, rfl⟩ : ∃ j, i = p + j := ⟨i - p, by omega⟩
      rw [g2 j (by omega), g5 j (by omega)]
      rcases Nat.lt_or_ge kk p with hkp | hkp
      · rw [g1 kk hkp]
        rcases Nat.eq_zero_or_pos kk with rfl | hk0
        · rw [← hz]
          have : j + 1 ≠ m := by
            intro e
            apply hk1
            rw [show p + j + 1 = p + m by omega, Nat.mod_self]
          exact hup.strict _ _ _ (by omega) (by omega) (by omega)
        · have u1 := hlo.asc (kk - 1) (by omega)
          have u2 := hlo.asc kk (by omega)
          rw [show kk - 1 + 1 = kk by omega] at u1
          have l1 := hlo.left (kk - 1) (by omega)
          rw [show kk - 1 + 1 = kk by omega] at l1
          have l2 := hlo.left kk (by omega)
          have lm1 : at0 up j ∈ pts := hup.sub _ (at0_mem (by omega))
          have lm2 : at0 up (j + 1) ∈ pts := hup.sub _ (at0_mem (by omega))
          refine corner_off (k := -k) (l := -l) (a := at0 lo (kk - 1)) (b := at0 lo (kk + 1)) (hup.asc j (by omega)) (by rw [hul, hul]; omega) (by rw [hul, hul]; omega) (hlo.strict _ _ _ (by omega) (by omega) (by omega)) (l1 _ lm1) (l2 _ lm1) (l1 _ lm2) (l2 _ lm2) ?_ ?_ ?_
          all_goals exact hup.left j (by omega) _ (hlo.sub _ (at0_mem (by omega)))
      · obtain ⟨j', rfl⟩ : ∃ j', kk = p + j' := ⟨kk - p, by omega⟩
        rw [g2 j' (by omega)]
        have hne : j' ≠ j + 1 := by
          intro e
          apply hk1
          rw [Nat.mod_eq_of_lt (by omega)]; omega
        rcases Nat.lt_or_ge j' j with h | h
        · rw [← det_cycle]; exact hup.strict _ _ _ h (by omega) (by omega)
        · exact hup.strict _ _ _ (by omega) (by omega) (by omega)
  · rw [hn] at hi
    rcases Nat.lt_or_ge i p with hip | hip
    · rw [g1 i hip, g4 i hip]; exact hlo.left i (by omega) q hq
    · obtain ⟨j, rfl⟩ : ∃ j, i = p + j := ⟨i - p, by omega⟩
      rw [g2 j (by omega), g5 j (by omega)]; exact hup.left j (by omega) q hq
  · rcases List.mem_append.1 hq with h | h
    · exact hlo.sub _ (List.dropLast_subset _ h)
    · exact hup.sub _ (List.dropLast_subset _ h)
/-- Two chains of one edge: all points on a line. -/
theorem line_all {k l : Int} {a b u v w : Pt} (hab : lin k l a < lin k l b) (hu : det a b u = 0) (hv : det a b v = 0) (hw : det a b w = 0) : det u v w = 0 := by
  have e : (lin k l b - lin k l a) * det u v w = (lin k l v - lin k l u) * (det a b w - det a b u) - (lin k l w - lin k l u) * (det a b v - det a b u) := by unfold det lin; grind
  rw [hu, hv, hw] at e
  exact zero_of_mul (a := lin k l b - lin k l a) (by omega) (by rw [e]; simp)
end Go.Proofs.YtpbgimdbhgahkaaGreat
/- The vertex behind a vertex is found by turning; a hull is determined by its points and its first vertex. No program here. -/
namespace Go.Proofs.YtpbgimdbhgahkaaGreat
set_option linter.unusedVariables false

theorem sq_nonneg (a : Int) : 0 ≤ a * a := by
  rcases Int.lt_or_le a 0 with h | h
  · have := Int.mul_nonneg (a := -a) (b := -a) (by omega) (by omega); rwa [Int.neg_mul_neg] at this
  · exact Int.mul_nonneg h h
def dd (a q : Pt) : Int := (q.1 - a.1) * (q.1 - a.1) + (q.2 - a.2) * (q.2 - a.2)
theorem IsHull.next_ne {pts r : List Pt} (h : IsHull pts r) {i : Nat} (hi : i < r.length) : at0 r i ≠ rv r (i + 1) := by
  obtain ⟨j, hj, e, hc, -, -⟩ := h.corner hi
  intro he
  rw [← he, det_end] at hc
  omega
theorem IsHull.distinct {pts r : List Pt} (h : IsHull pts r) {i k : Nat} (hi : i < r.length) (hk : k < r.length) (hne : i ≠ k) : at0 r i ≠ at0 r k := by
  intro he
  by_cases h1 : k = (i + 1) % r.length
  · apply h.next_ne hi
    unfold rv; rw [← h1]; exact he
  · have := h.convex i k hi hk (Ne.symm hne) h1
    rw [← he, det_self] at this
    omega
/-- A point on an edge: its far end, or less far. -/
theorem IsHull.on_edge {pts r : List Pt} (h : IsHull pts r) {i : Nat} (hi : i < r.length) {q : Pt} (hq : q ∈ pts) (h0 : det (at0 r i) (rv r (i + 1)) q = 0) : q = rv r (i + 1) ∨ dd (at0 r i) q < dd (at0 r i) (rv r (i + 1)) := by
  have h3 := h.three
  obtain ⟨j, hj, -, hA, hl, -⟩ := h.corner hi
  have hn : (i + 1) % r.length < r.length := Nat.mod_lt _ (by omega)
  have hB : 0 < det (rv r (i + 1)) (rv r ((i + 1) % r.length + 1)) (at0 r i) := by
    refine h.convex _ i hn hi ?_ ?_
    · intro e; exact h.next_ne hi (by unfold rv; rw [← e])
    · intro e
      rcases Nat.lt_or_ge (i + 1) r.length with h1 | h1
      · rw [Nat.mod_eq_of_lt h1] at e
        rcases Nat.lt_or_ge (i + 1 + 1) r.length with h2 | h2
        · rw [Nat.mod_eq_of_lt h2] at e; omega
        · have : i + 1 + 1 = r.length := by omega
          rw [this, Nat.mod_self] at e; omega
      · have : i + 1 = r.length := by omega
        rw [this, Nat.mod_self, Nat.mod_eq_of_lt (by omega)] at e; omega
  have ha := hl q hq
  have hb := h.left _ hn q hq
  have hne := h.next_ne hi
  rw [show at0 r ((i + 1) % r.length) = rv r (i + 1) from rfl] at hb
  generalize rv r ((i + 1) % r.length + 1) = M at *
  generalize rv r (i + 1) = N at *
  generalize at0 r i = P at *
  generalize at0 r j = L at *
  clear hl hn h3
  have e1 : det L P N * (q.1 - P.1) = det L P q * (N.1 - P.1) := by
    have : det L P N * (q.1 - P.1) - det L P q * (N.1 - P.1) = (L.1 - P.1) * det P N q := by unfold det; grind
    rw [h0] at this; simp at this; omega
  have e2 : det L P N * (q.2 - P.2) = det L P q * (N.2 - P.2) := by
    have : det L P N * (q.2 - P.2) - det L P q * (N.2 - P.2) = (L.2 - P.2) * det P N q := by unfold det; grind
    rw [h0] at this; simp at this; omega
  have f1 : det N M P * (q.1 - N.1) = det N M q * (P.1 - N.1) := by
    have : det N M P * (q.1 - N.1) - det N M q * (P.1 - N.1) = (M.1 - N.1) * det P N q := by unfold det; grind
    rw [h0] at this; simp at this; omega
  have f2 : det N M P * (q.2 - N.2) = det N M q * (P.2 - N.2) := by
    have : det N M P * (q.2 - N.2) - det N M q * (P.2 - N.2) = (M.2 - N.2) * det P N q := by unfold det; grind
    rw [h0] at this; simp at this; omega
  generalize det L P N = A at *
  generalize det L P q = a at *
  generalize det N M P = B at *
  generalize det N M q = b at *
  have g1 : (B * (a - A) + A * b) * (N.1 - P.1) = 0 := by grind
  have g2 : (B * (a - A) + A * b) * (N.2 - P.2) = 0 := by grind
  have hz : B * (a - A) + A * b = 0 := by
    rcases Int.mul_eq_zero.1 g1 with h | h
    · exact h
    · rcases Int.mul_eq_zero.1 g2 with h' | h'
      · exact h'
      · exact absurd (Prod.ext (by omega) (by omega) : P = N) hne
  have hle : a ≤ A := by
    rcases Int.lt_or_le A a with hlt | hle
    · have m1 := Int.mul_pos hB (show 0 < a - A by omega)
      have m2 := Int.mul_nonneg (Int.le_of_lt hA) hb
      omega
    · exact hle
  rcases Int.lt_or_le a A with hlt | hge
  · right
    have hdd : 0 < dd P N := by
      unfold dd
      rcases Int.lt_or_le 0 ((N.1 - P.1) * (N.1 - P.1)) with h | h
      · have := sq_nonneg (N.2 - P.2)
        omega
      · have h1 := sq_nonneg (N.1 - P.1)
        have h2 := sq_nonneg (N.2 - P.2)
        have z1 : (N.1 - P.1) * (N.1 - P.1) = 0 := by omega
        rcases Int.lt_or_le 0 ((N.2 - P.2) * (N.2 - P.2)) with h' | h'
        · omega
        · have z2 : (N.2 - P.2) * (N.2 - P.2) = 0 := by omega
          have y1 : N.1 - P.1 = 0 := by rcases Int.mul_eq_zero.1 z1 with h | h <;> exact h
          have y2 : N.2 - P.2 = 0 := by rcases Int.mul_eq_zero.1 z2 with h | h <;> exact h
          exact absurd (Prod.ext (by omega) (by omega) : P = N) hne
    have e : A * A * dd P q = a * a * dd P N := by unfold dd; grind
    have hAA : a * a < A * A := by
      have : 0 < (A - a) * (A + a) := Int.mul_pos (by omega) (by omega)
      have e : (A - a) * (A + a) = A * A - a * a := by grind
      omega
    have m := Int.mul_pos (show 0 < A * A - a * a by omega) hdd
    have e' : (A * A - a * a) * dd P N = A * A * (dd P N - dd P q) := by grind
    rw [e'] at m
    have := pos_of_mul (Int.mul_pos hA hA) m
    omega
  · left
    have hAa : a = A := by omega
    subst hAa
    have y1 : q.1 - P.1 = N.1 - P.1 := Int.eq_of_mul_eq_mul_left (Int.ne_of_gt hA) e1
    have y2 : q.2 - P.2 = N.2 - P.2 := Int.eq_of_mul_eq_mul_left (Int.ne_of_gt hA) e2
    exact Prod.ext (by omega) (by omega)

/-- One step of the search for the next vertex. -/
def nextStep (p q x : Pt) : Pt := if x = p then q else if q = p then x else if det p q x < 0 ∨ det p q x = 0 ∧ dd p q < dd p x then x else q
def nextF (l : List Pt) (p : Pt) : Pt := l.foldl (nextStep p) p
theorem IsHull.step_keep {pts r : List Pt} (h : IsHull pts r) {i : Nat} (hi : i < r.length) {x : Pt} (hx : x ∈ pts) : nextStep (at0 r i) (rv r (i + 1)) x = rv r (i + 1) := by
  unfold nextStep
  have hne := h.next_ne hi
  have hl := h.left i hi x hx
  by_cases h1 : x = at0 r i
  · rw [if_pos h1]
  · rw [if_neg h1, if_neg (Ne.symm hne)]
    split
    · rename_i hc
      rcases hc with hc | ⟨hc, hd⟩
      · omega
      · rcases h.on_edge hi hx hc with h2 | h2
        · exact h2
        · omega
    · rfl
theorem IsHull.step_find {pts r : List Pt} (h : IsHull pts r) {i : Nat} (hi : i < r.length) {q : Pt} (hq : q ∈ pts) : nextStep (at0 r i) q (rv r (i + 1)) = rv r (i + 1) := by
  unfold nextStep
  have hne := h.next_ne hi
  rw [if_neg (Ne.symm hne)]
  by_cases h1 : q = at0 r i
  · rw [if_pos h1]
  · rw [if_neg h1]
    have hl := h.left i hi q hq
    have e : det (at0 r i) q (rv r (i + 1)) = -det (at0 r i) (rv r (i + 1)) q := by unfold det; grind
    split
    · rfl
    · rename_i hc
      rw [e] at hc
      by_cases h2 : det (at0 r i) (rv r (i + 1)) q = 0
      · rcases h.on_edge hi hq h2 with h3 | h3
        · exact h3
        · exact absurd (Or.inr ⟨by omega, h3⟩) hc
      · exact absurd (Or.inl (by omega)) hc
theorem nextStep_mem {pts : List Pt} {p q x : Pt} (hq : q ∈ pts) (hx : x ∈ pts) : nextStep p q x ∈ pts := by
  unfold nextStep; split
  · exact hq
  · split
    · exact hx
    · split <;> assumption
theorem IsHull.fold_next {pts r : List Pt} (h : IsHull pts r) {i : Nat} (hi : i < r.length) : ∀ (l : List Pt) (q : Pt), (∀ x ∈ l, x ∈ pts) → q ∈ pts → (rv r (i + 1) ∈ l ∨ q = rv r (i + 1)) → l.foldl (nextStep (at0 r i)) q = rv r (i + 1)
  | [], q, _, _, hm => by simpa using hm
  | x :: l, q, hl, hq, hm => by
    rw [List.foldl_cons]
    refine h.fold_next hi l _ (fun y hy => hl y (List.mem_cons_of_mem _ hy)) (nextStep_mem hq (hl x (by simp))) ?_
    rcases hm with hm | rfl
    · rcases List.mem_cons.1 hm with rfl | hm
      · right; exact h.step_find hi hq
      · left; exact hm
    · right; exact h.step_keep hi (hl x (by simp))
theorem IsHull.next {pts r : List Pt} (h : IsHull pts r) {i : Nat} (hi : i < r.length) : nextF pts (at0 r i) = rv r (i + 1) :=
  h.fold_next hi pts _ (fun x hx => hx) (h.sub _ (at0_mem hi)) (.inl (h.sub _ (at0_mem (Nat.mod_lt _ (by have := h.three; omega)))))
theorem IsHull.next' {pts r : List Pt} (h : IsHull pts r) (i : Nat) : nextF pts (rv r i) = rv r (i + 1) := by
  have h3 := h.three
  have hi : i % r.length < r.length := Nat.mod_lt _ (by omega)
  have := h.next hi
  unfold rv at this ⊢
  rw [this, Nat.mod_add_mod]
/-- Two hulls of the same points with the same first vertex are the same. -/
theorem IsHull.unique {pts r s : List Pt} (h : IsHull pts r) (h' : IsHull pts s) (h0 : at0 r 0 = at0 s 0) : r = s := by
  have e : ∀ i, rv r i = rv s i := fun i => by
    induction i with
    | zero => unfold rv; simpa using h0
    | succ i ih => rw [← h.next', ← h'.next', ih]
  have hr := h.three
  have hs := h'.three
  have hlen : r.length = s.length := by
    rcases Nat.lt_trichotomy r.length s.length with hlt | heq | hlt
    · exfalso
      have e1 := e r.length
      unfold rv at e1
      rw [Nat.mod_self, Nat.mod_eq_of_lt hlt, h0] at e1
      exact h'.distinct (by omega) hlt (by omega) e1
    · exact heq
    · exfalso
      have e1 := e s.length
      unfold rv at e1
      rw [Nat.mod_self, Nat.mod_eq_of_lt hlt, ← h0] at e1
      exact h.distinct hlt (by omega) (by omega) e1
  refine List.ext_getElem hlen fun i h1 h2 => ?_
  have := e i
  unfold rv at this
  rw [Nat.mod_eq_of_lt h1, Nat.mod_eq_of_lt h2, at0_eq h1, at0_eq h2] at this
  exact this
/-- Turned round, a hull stays one. -/
theorem IsHull.more {pts pts' r : List Pt} (h : IsHull pts r) (h1 : ∀ q ∈ pts', q ∈ pts) (h2 : ∀ v ∈ r, v ∈ pts') : IsHull pts' r :=
  ⟨h.three, h.convex, fun i hi q hq => h.left i hi q (h1 q hq), h2⟩
end Go.Proofs.YtpbgimdbhgahkaaGreat
/- The hull of ascending points out of two chains; its first vertex; points on a line. No program here. -/
namespace Go.Proofs.YtpbgimdbhgahkaaGreat
set_option linter.unusedVariables false

def lexlt (p q : Pt) : Prop := p.1 < q.1 ∨ p.1 = q.1 ∧ p.2 < q.2
theorem lexlt.ne {p q : Pt} (h : lexlt p q) : p ≠ q := by rintro rfl; rcases h with h | ⟨_, h⟩ <;> omega
theorem lin_lex {M : Int} {p q : Pt} (hp : -M ≤ p.2 ∧ p.2 ≤ M) (hq : -M ≤ q.2 ∧ q.2 ≤ M) (h : lexlt p q) : lin (2 * M + 1) 1 p < lin (2 * M + 1) 1 q := by
  unfold lin
  rcases h with h | ⟨h1, h2⟩
  · have m := Int.mul_le_mul_of_nonneg_left (show 1 ≤ q.1 - p.1 by omega) (show 0 ≤ 2 * M + 1 by omega)
    rw [Int.mul_sub] at m
    omega
  · rw [h1]; omega
theorem lin_neg (k l : Int) (q : Pt) : lin (-k) (-l) q = -lin k l q := by unfold lin; grind
theorem chain_of {k l : Int} {p : Pt} {rest : List Pt} (h : (p :: rest).Pairwise (fun x y => lin k l x < lin k l y)) :
    Chain k l (p :: rest) (chainC [] (p :: rest)).reverse ∧ at0 (chainC [] (p :: rest)).reverse 0 = p ∧ at0 (chainC [] (p :: rest)).reverse ((chainC [] (p :: rest)).reverse.length - 1) = ((p :: rest).getLast (by simp)) ∧ 1 ≤ (chainC [] (p :: rest)).length := by
  have e : chainC [] (p :: rest) = chainC [p] rest := rfl
  rw [e]
  have h0 : StackC k l [p] [p] := ⟨fun q hq => hq, trivial, trivial, trivial, fun z hz q hq => by simp at hz hq; subst hz; subst hq; exact Int.le_refl _⟩
  obtain ⟨h1, h2, h3⟩ := chain_inv h0 (fun q hq => by simp at hq; subst hq; exact Int.le_refl _) (fun q hq _ => by simpa using hq) h
  have hne : chainC [p] rest ≠ [] := by intro e; rw [e] at h2; simp at h2
  have hl : 0 < (chainC [p] rest).length := List.length_pos_iff.2 hne
  refine ⟨(h1.perm (seen' := p :: rest) fun q => by simp [or_comm]).chain, ?_, ?_, hl⟩
  · rw [at0_reverse hl, at0_eq (by omega)]
    rw [List.getLast?_eq_getElem?] at h2
    rw [List.getElem?_eq_getElem (by omega)] at h2
    simpa using h2
  · rw [at0_reverse (by simp; omega), at0_eq (by omega)]
    rw [List.head?_eq_getElem?, List.getElem?_eq_getElem hl, List.getLast?_eq_some_getLast (by simp)] at h3
    simpa using h3
/-- The two chains of ascending points. -/
def lowC (pts : List Pt) : List Pt := (chainC [] pts).reverse
theorem hull_or_line {M : Int} {pts : List Pt} (hM : ∀ q ∈ pts, -M ≤ q.2 ∧ q.2 ≤ M) (hs : pts.Pairwise lexlt) (h2 : 2 ≤ pts.length) :
    2 ≤ (lowC pts).length ∧ 2 ≤ (lowC pts.reverse).length ∧
    ((3 ≤ (lowC pts).length - 1 + ((lowC pts.reverse).length - 1) ∧ IsHull pts ((lowC pts).dropLast ++ (lowC pts.reverse).dropLast) ∧ at0 ((lowC pts).dropLast ++ (lowC pts.reverse).dropLast) 0 = at0 pts 0) ∨
     ((lowC pts).length - 1 + ((lowC pts.reverse).length - 1) < 3 ∧ ∀ u ∈ pts, ∀ v ∈ pts, ∀ w ∈ pts, det u v w = 0)) := by
  have hpw : pts.Pairwise (fun x y => lin (2 * M + 1) 1 x < lin (2 * M + 1) 1 y) := by
    refine List.Pairwise.imp_of_mem ?_ hs
    intro a b ha hb hab
    exact lin_lex (hM a ha) (hM b hb) hab
  have hpr : pts.reverse.Pairwise (fun x y => lin (-(2 * M + 1)) (-1) x < lin (-(2 * M + 1)) (-1) y) := by
    rw [List.pairwise_reverse]
    refine hpw.imp ?_
    intro a b hab
    rw [lin_neg, lin_neg]; omega
  generalize 2 * M + 1 = K at *
  obtain ⟨a, rest, rfl⟩ : ∃ a rest, pts = a :: rest := by
    cases pts with
    | nil => simp at h2
    | cons a rest => exact ⟨a, rest, rfl⟩
  obtain ⟨b, rest', hr⟩ : ∃ b rest', (a :: rest).reverse = b :: rest' := by
    cases h : (a :: rest).reverse with
    | nil => simp at h
    | cons b rest' => exact ⟨b, rest', rfl⟩
  have hlast : (a :: rest).getLast (by simp) = b := by
    have := congrArg List.head? hr
    rw [List.head?_reverse, List.getLast?_eq_some_getLast (by simp)] at this
    simpa using this
  have hlast' : (b :: rest').getLast (by simp) = a := by
    have := congrArg List.getLast? hr
    rw [List.getLast?_reverse] at this
    rw [List.getLast?_eq_some_getLast (by simp)] at this
    simp at this
    exact this.symm
  have hmem : ∀ q, q ∈ a :: rest ↔ q ∈ b :: rest' := fun q => by rw [← hr, List.mem_reverse]
  obtain ⟨c1, s1, e1, l1⟩ := chain_of hpw
  rw [hlast] at e1
  rw [hr] at hpr ⊢
  obtain ⟨c2, s2, e2, l2⟩ := chain_of hpr
  rw [hlast'] at e2
  have hab : lin K 1 a < lin K 1 b := by
    have hb : b ∈ rest := by
      rw [← hlast]
      cases rest with
      | nil => simp at h2
      | cons x r => rw [List.getLast_cons (by simp)]; exact List.getLast_mem _
    exact (List.pairwise_cons.1 hpw).1 b hb
  have hne : a ≠ b := by rintro rfl; omega
  have c2' : Chain (-K) (-1) (a :: rest) (lowC (b :: rest')) := ⟨c2.asc, c2.strict, fun i hi q hq => c2.left i hi q ((hmem q).1 hq), fun q hq => (hmem q).2 (c2.sub q hq)⟩
  have g1 : 2 ≤ (lowC (a :: rest)).length := by
    have hl : (lowC (a :: rest)).length = (chainC [] (a :: rest)).length := by unfold lowC; simp
    rcases Nat.lt_or_ge 1 (lowC (a :: rest)).length with h | h
    · exact h
    · exfalso
      have hz : (chainC [] (a :: rest)).reverse.length - 1 = 0 := by simp; omega
      rw [hz, s1] at e1
      exact hne e1
  have g2 : 2 ≤ (lowC (b :: rest')).length := by
    have hl : (lowC (b :: rest')).length = (chainC [] (b :: rest')).length := by unfold lowC; simp
    rcases Nat.lt_or_ge 1 (lowC (b :: rest')).length with h | h
    · exact h
    · exfalso
      have hz : (chainC [] (b :: rest')).reverse.length - 1 = 0 := by simp; omega
      rw [hz, s2] at e2
      exact hne e2.symm
  refine ⟨g1, g2, ?_⟩
  rcases Nat.lt_or_ge ((lowC (a :: rest)).length - 1 + ((lowC (b :: rest')).length - 1)) 3 with h3 | h3
  · right
    refine ⟨h3, ?_⟩
    have z1 : (lowC (a :: rest)).length = 2 := by omega
    have z2 : (lowC (b :: rest')).length = 2 := by omega
    have t1 : at0 (lowC (a :: rest)) 1 = b := by
      have : (chainC [] (a :: rest)).reverse.length - 1 = 1 := by unfold lowC at z1; rw [z1]
      rw [this] at e1; exact e1
    have t2 : at0 (lowC (b :: rest')) 1 = a := by
      have : (chainC [] (b :: rest')).reverse.length - 1 = 1 := by unfold lowC at z2; rw [z2]
      rw [this] at e2; exact e2
    have hz : ∀ q ∈ a :: rest, det a b q = 0 := by
      intro q hq
      have k1 := c1.left 0 (by show 0 + 1 < (lowC (a :: rest)).length; omega) q hq
      have k2 := c2'.left 0 (by omega) q hq
      rw [s1, show at0 (chainC [] (a :: rest)).reverse (0 + 1) = b from t1] at k1
      rw [show at0 (lowC (b :: rest')) 0 = b from s2, show at0 (lowC (b :: rest')) (0 + 1) = a from t2] at k2
      have := det_swap a b q
      omega
    intro u hu v hv w hw
    exact line_all hab (hz u hu) (hz v hv) (hz w hw)
  · left
    refine ⟨h3, hull_ring (k := K) (l := 1) c1 c2' g1 g2 ?_ ?_ h3, ?_⟩
    · exact s2.trans e1.symm
    · exact e2.trans s1.symm
    · have hl : 0 < (lowC (a :: rest)).dropLast.length := by simp; omega
      have : at0 ((lowC (a :: rest)).dropLast ++ (lowC (b :: rest')).dropLast) 0 = at0 (lowC (a :: rest)) 0 := by
        rw [at0_eq (by simp; omega), at0_eq (by omega), List.getElem_append_left hl, List.getElem_dropLast]
      rw [this]
      exact s1
/-- A hull and its first vertex. -/
structure HullR (pts r : List Pt) : Prop where
  hull : IsHull pts r
  first : ∀ q ∈ pts, q = at0 r 0 ∨ lexlt (at0 r 0) q
theorem lexlt.asymm {p q : Pt} (h : lexlt p q) (h' : lexlt q p) : False := by unfold lexlt at *; omega
theorem HullR.unique {pts r s : List Pt} (h : HullR pts r) (h' : HullR pts s) : r = s := by
  refine h.hull.unique h'.hull ?_
  have hr := h.hull.three
  have hs := h'.hull.three
  rcases h.first _ (h'.hull.sub _ (at0_mem (i := 0) (by omega))) with e | h1
  · exact e.symm
  · rcases h'.first _ (h.hull.sub _ (at0_mem (i := 0) (by omega))) with e | h2
    · exact e
    · exact (h1.asymm h2).elim
theorem HullR.not_line {pts r : List Pt} (h : IsHull pts r) : ∃ u ∈ pts, ∃ v ∈ pts, ∃ w ∈ pts, det u v w ≠ 0 := by
  have h3 := h.three
  obtain ⟨j, hj, -, hc, -, -⟩ := h.corner (i := 0) (by omega)
  exact ⟨at0 r j, h.sub _ (at0_mem hj), at0 r 0, h.sub _ (at0_mem (i := 0) (by omega)), rv r (0 + 1), h.sub _ (at0_mem (Nat.mod_lt _ (by omega))), by omega⟩
end Go.Proofs.YtpbgimdbhgahkaaGreat
/- Layer 10 (plain): the hull that begins with its least vertex, by Y and then X; when all points lie on a line. -/
namespace Go.Proofs.YtpbgimdbhgahkaaGreat
set_option linter.unusedVariables false

theorem mod_two {n x : Nat} (h : x < 2 * n) : x % n = if x < n then x else x - n := by
  split
  · exact Nat.mod_eq_of_lt (by assumption)
  · rw [Nat.mod_eq_sub_mod (by omega), Nat.mod_eq_of_lt (by omega)]
/-- A ring that begins with another vertex. -/
def rotL (k : Nat) (r : List Pt) : List Pt := r.drop k ++ r.take k
theorem rotL_length {k : Nat} {r : List Pt} (hk : k ≤ r.length) : (rotL k r).length = r.length := by
  unfold rotL; rw [List.length_append, List.length_drop, List.length_take]; omega
theorem rot_at {k i : Nat} {r : List Pt} (hk : k < r.length) (hi : i < r.length) : at0 (rotL k r) i = at0 r ((k + i) % r.length) := by
  rw [at0_eq (by rw [rotL_length (by omega)]; exact hi), mod_two (by omega)]
  unfold rotL
  by_cases h : k + i < r.length
  · rw [if_pos h, List.getElem_append_left (by rw [List.length_drop]; omega), List.getElem_drop, at0_eq h]
  · rw [if_neg h, List.getElem_append_right (by rw [List.length_drop]; omega), List.getElem_take, at0_eq (by omega)]
    congr 1
    rw [List.length_drop]; omega
theorem rot_rv {k i : Nat} {r : List Pt} (hk : k < r.length) (hi : i < r.length) : rv (rotL k r) (i + 1) = rv r ((k + i) % r.length + 1) := by
  unfold rv
  rw [rotL_length (by omega), rot_at hk (Nat.mod_lt _ (by omega))]
  congr 1
  rw [mod_two (n := r.length) (x := i + 1) (by omega), mod_two (n := r.length) (x := k + i) (by omega)]
  by_cases h1 : i + 1 < r.length <;> by_cases h2 : k + i < r.length <;> simp only [h1, h2, if_true, if_false] <;>
    (rw [mod_two (by omega), mod_two (by omega)]; split <;> split <;> omega)
theorem IsHull.rot {pts r : List Pt} (h : IsHull pts r) {k : Nat} (hk : k < r.length) : IsHull pts (rotL k r) := by
  have hl := rotL_length (Nat.le_of_lt hk)
  refine ⟨by rw [hl]; exact h.three, fun i m hi hm h1 h2 => ?_, fun i hi q hq => ?_, fun q hq => h.sub q ?_⟩
  · rw [hl] at hi hm h2
    rw [rot_at hk hi, rot_at hk hm, rot_rv hk hi]
    refine h.convex _ _ (Nat.mod_lt _ (by omega)) (Nat.mod_lt _ (by omega)) ?_ ?_
    · rw [mod_two (by omega), mod_two (by omega)]; split <;> split <;> omega
    · intro e
      apply h2
      rw [mod_two (n := r.length) (x := k + m) (by omega), mod_two (n := r.length) (x := k + i) (by omega)] at e
      rw [mod_two (by omega)]
      revert e
      split <;> split <;> (rw [mod_two (by omega)]; split <;> split <;> omega)
  · rw [hl] at hi
    rw [rot_at hk hi, rot_rv hk hi]
    exact h.left _ (Nat.mod_lt _ (by omega)) q hq
  · unfold rotL at hq
    rcases List.mem_append.1 hq with h | h
    · exact List.mem_of_mem_drop h
    · exact List.mem_of_mem_take h
def lexy (p q : Pt) : Prop := p.2 < q.2 ∨ p.2 = q.2 ∧ p.1 < q.1
theorem lexy.asymm {p q : Pt} (h : lexy p q) (h' : lexy q p) : False := by unfold lexy at *; omega
theorem lexy_tri (p q : Pt) : lexy p q ∨ p = q ∨ lexy q p := by
  obtain ⟨a, b⟩ := p
  obtain ⟨c, d⟩ := q
  unfold lexy
  simp only [Prod.mk.injEq]
  omega
theorem lin_lexy {M : Int} {p q : Pt} (hp : -M ≤ p.1 ∧ p.1 ≤ M) (hq : -M ≤ q.1 ∧ q.1 ≤ M) (h : lin 1 (2 * M + 1) p ≤ lin 1 (2 * M + 1) q) : p = q ∨ lexy p q := by
  rcases lexy_tri p q with h1 | h1 | h1
  · exact .inr h1
  · exact .inl h1
  · exfalso
    have : lexlt (q.2, q.1) (p.2, p.1) := h1
    have h2 := lin_lex (M := M) (p := (q.2, q.1)) (q := (p.2, p.1)) hq hp this
    unfold lin at *
    simp only at h2
    omega
/-- A hull and its first vertex, the least one by Y and then X. -/
structure HullY (pts r : List Pt) : Prop where
  hull : IsHull pts r
  first : ∀ q ∈ pts, at0 r 0 = q ∨ lexy (at0 r 0) q
theorem HullY.unique {pts r s : List Pt} (h : HullY pts r) (h' : HullY pts s) : r = s := by
  refine h.hull.unique h'.hull ?_
  have hr := h.hull.three
  have hs := h'.hull.three
  rcases h.first _ (h'.hull.sub _ (at0_mem (i := 0) (by omega))) with e | h1
  · exact e
  · rcases h'.first _ (h.hull.sub _ (at0_mem (i := 0) (by omega))) with e | h2
    · exact e.symm
    · exact (h1.asymm h2).elim
theorem HullY.more {pts pts' r : List Pt} (h : HullY pts r) (h1 : ∀ q ∈ pts', q ∈ pts) (h2 : ∀ v ∈ r, v ∈ pts') : HullY pts' r := ⟨h.hull.more h1 h2, fun q hq => h.first q (h1 q hq)⟩
theorem begin_hull {M : Int} {pts r : List Pt} (hM : ∀ q ∈ pts, -M ≤ q.1 ∧ q.1 ≤ M) (h : IsHull pts r) {k : Nat} (hk : k < r.length) (hl : ∀ j, j < r.length → ¬ lexy (at0 r j) (at0 r k)) : HullY pts (rotL k r) := by
  refine ⟨h.rot hk, fun q hq => ?_⟩
  rw [rot_at hk (by omega), Nat.add_zero, Nat.mod_eq_of_lt hk]
  have hkm := h.sub _ (at0_mem hk)
  obtain ⟨i, hi, hm⟩ := h.least 1 (2 * M + 1)
  have him := h.sub _ (at0_mem hi)
  have e : at0 r i = at0 r k := by
    rcases lin_lexy (hM _ him) (hM _ hkm) (hm _ hkm) with e | e
    · exact e
    · exact absurd e (hl i hi)
  rw [e] at hm
  exact lin_lexy (hM _ hkm) (hM q hq) (hm q hq)
/-- All points lie on a line with the first one. -/
def Line0 (a : Pt) (l : List Pt) : Prop := ∀ u ∈ l, ∀ v ∈ l, u ≠ a → det a u v = 0
theorem line0_all {a : Pt} {l : List Pt} (h : Line0 a l) : ∀ u ∈ l, ∀ v ∈ l, ∀ w ∈ l, det u v w = 0 := by
  have h' : ∀ u ∈ l, ∀ v ∈ l, det a u v = 0 := fun u hu v hv => by
    by_cases e : u = a
    · rw [e]; unfold det; rw [Int.sub_self, Int.sub_self, Int.zero_mul, Int.zero_mul]; rfl
    · exact h u hu v hv e
  intro u hu v hv w hw
  have := det_four a u v w
  rw [h' u hu v hv, h' v hv w hw, h' u hu w hw] at this
  omega
theorem hull_not_line0 {pts r : List Pt} (h : IsHull pts r) (a : Pt) : ¬ Line0 a pts := fun hl => by
  obtain ⟨u, hu, v, hv, w, hw, hne⟩ := HullR.not_line h
  exact hne (line0_all hl u hu v hv w hw)
theorem line0_of {a : Pt} {l : List Pt} (ha : a ∈ l) (h : ∀ u ∈ l, ∀ v ∈ l, ∀ w ∈ l, det u v w = 0) : Line0 a l := fun u hu v hv _ => h a ha u hu v hv
end Go.Proofs.YtpbgimdbhgahkaaGreat
/- Layer 10 (plain): the reference's gift wrapping. -/
namespace Go.Proofs.YtpbgimdbhgahkaaGreat
set_option linter.unusedVariables false

def nrm (p x : Pt) : Int := (x.1 - p.1) * (x.1 - p.1) + (x.2 - p.2) * (x.2 - p.2)
def dotE (p v x : Pt) : Int := (v.1 - p.1) * (x.1 - p.1) + (v.2 - p.2) * (x.2 - p.2)
theorem nrm_nonneg (p x : Pt) : 0 ≤ nrm p x := by
  unfold nrm
  have h1 := sq_nonneg (x.1 - p.1)
  have h2 := sq_nonneg (x.2 - p.2)
  omega
def stepN (p q x : Pt) : Pt := if x = p then q else if q = p then x else if det p q x < 0 ∨ (det p q x = 0 ∧ nrm p q < nrm p x) then x else q
def nextC (l : List Pt) (p : Pt) : Pt := l.foldl (stepN p) p
/-- The next vertex v of p: all lies left, and what lies on the edge lies nearer. -/
structure Ahead (l : List Pt) (p v : Pt) : Prop where
  ne : v ≠ p
  left : ∀ x ∈ l, 0 ≤ det p v x
  near : ∀ x ∈ l, x ≠ v → det p v x = 0 → nrm p x < nrm p v
theorem step_keep {l : List Pt} {p v x : Pt} (h : Ahead l p v) (hx : x ∈ l) : stepN p v x = v := by
  unfold stepN
  split
  · rfl
  · rw [if_neg h.ne]
    split
    · rename_i h0 h1
      have := h.left x hx
      rcases h1 with h1 | ⟨h1, h2⟩
      · omega
      · by_cases e : x = v
        · exact e
        · have := h.near x hx e h1; omega
    · rfl
theorem det_swap2 (p q x : Pt) : det p q x = - det p x q := by unfold det; grind
theorem step_take {l : List Pt} {p v q : Pt} (h : Ahead l p v) (hq : q ∈ l ∨ q = p) : stepN p q v = v := by
  unfold stepN
  rw [if_neg h.ne]
  split
  · rfl
  · rename_i hne
    have hql : q ∈ l := hq.resolve_right hne
    have h1 := h.left q hql
    have h2 := det_swap2 p q v
    split
    · rfl
    · rename_i hc
      by_cases e : q = v
      · exact e
      · exfalso
        apply hc
        by_cases h0 : det p v q = 0
        · exact .inr ⟨by omega, h.near q hql e h0⟩
        · exact .inl (by omega)
theorem step_in {l : List Pt} {p q x : Pt} (hq : q ∈ l ∨ q = p) (hx : x ∈ l) : stepN p q x ∈ l ∨ stepN p q x = p := by
  unfold stepN
  split
  · exact hq
  · split
    · exact .inl hx
    · split
      · exact .inl hx
      · exact hq
theorem fold_ahead {l : List Pt} {p v : Pt} (h : Ahead l p v) : ∀ (m : List Pt) (q : Pt), (∀ x ∈ m, x ∈ l) → (q ∈ l ∨ q = p) → (q = v ∨ v ∈ m) → m.foldl (stepN p) q = v
  | [], q, _, _, hv => by
    rcases hv with e | e
    · exact e
    · cases e
  | x :: m, q, hs, hq, hv => by
    rw [List.foldl_cons]
    refine fold_ahead h m _ (fun y hy => hs y (List.mem_cons_of_mem _ hy)) (step_in hq (hs x (List.mem_cons_self ..))) ?_
    rcases hv with e | e
    · subst e
      exact .inl (step_keep h (hs x (List.mem_cons_self ..)))
    · rcases List.mem_cons.1 e with e | e
      · subst e
        exact .inl (step_take h hq)
      · exact .inr e
theorem next_ahead {l : List Pt} {p v : Pt} (h : Ahead l p v) (hv : v ∈ l) : nextC l p = v :=
  fold_ahead h l p (fun _ hx => hx) (.inr rfl) (.inr hv)
/-- On the line p v, between the edges u p and v w. -/
theorem near_of {u p v w x : Pt} (hne : v ≠ p) (hx : x ≠ v) (h0 : det p v x = 0) (h1 : 0 ≤ det v w x) (c1 : 0 < det v w p) (h2 : 0 ≤ det u p x) (c2 : 0 < det u p v) : nrm p x < nrm p v := by
  have e1 : nrm p v * det v w x = det v w p * (nrm p v - dotE p v x) + (dotE p v w - nrm p v) * det p v x := by unfold nrm det dotE; grind
  have e2 : nrm p v * det u p x = det u p v * dotE p v x - dotE p v u * det p v x := by unfold nrm det dotE; grind
  have e3 : nrm p v * nrm p x = dotE p v x * dotE p v x + det p v x * det p v x := by unfold nrm det dotE; grind
  have e4 : nrm p v * (x.1 - p.1) = dotE p v x * (v.1 - p.1) - (v.2 - p.2) * det p v x := by unfold nrm det dotE; grind
  have e5 : nrm p v * (x.2 - p.2) = dotE p v x * (v.2 - p.2) + (v.1 - p.1) * det p v x := by unfold nrm det dotE; grind
  rw [h0] at e1 e2 e3 e4 e5
  simp only [Int.mul_zero, Int.add_zero, Int.sub_zero] at e1 e2 e3 e4 e5
  have hN : 0 < nrm p v := by
    rcases Int.lt_or_le 0 (nrm p v) with h | h
    · exact h
    · exfalso
      apply hne
      have a1 := sq_nonneg (v.1 - p.1)
      have a2 := sq_nonneg (v.2 - p.2)
      unfold nrm at h
      have b1 : (v.1 - p.1) * (v.1 - p.1) = 0 := by omega
      have b2 : (v.2 - p.2) * (v.2 - p.2) = 0 := by omega
      have d1 := Int.mul_eq_zero.1 b1
      have d2 := Int.mul_eq_zero.1 b2
      exact Prod.ext (by omega) (by omega)
  have s1 : 0 ≤ nrm p v - dotE p v x := nonneg_of_mul c1 (by rw [← e1]; exact Int.mul_nonneg (Int.le_of_lt hN) h1)
  have s0 : 0 ≤ dotE p v x := nonneg_of_mul c2 (by rw [← e2]; exact Int.mul_nonneg (Int.le_of_lt hN) h2)
  generalize dotE p v x = s at *
  generalize nrm p v = N at *
  by_cases hs : s = N
  · exfalso
    apply hx
    subst hs
    have d1 : s * (x.1 - v.1) = 0 := by grind
    have d2 : s * (x.2 - v.2) = 0 := by grind
    have d1 := zero_of_mul hN d1
    have d2 := zero_of_mul hN d2
    exact Prod.ext (by omega) (by omega)
  · have t : 0 < N * (N - nrm p x) := by
      have q1 : 0 < (N - s) * N := Int.mul_pos (by omega) hN
      have q2 : 0 ≤ (N - s) * s := Int.mul_nonneg (by omega) s0
      grind
    have := pos_of_mul hN t
    omega
theorem hull_ahead {l r : List Pt} (h : IsHull l r) {i : Nat} (hi : i < r.length) : Ahead l (at0 r i) (rv r (i + 1)) := by
  have h3 := h.three
  have hm1 : (i + 1) % r.length = if i + 1 < r.length then i + 1 else i + 1 - r.length := mod_two (by omega)
  obtain ⟨j, hj, hji⟩ : ∃ j, j < r.length ∧ (j + 1) % r.length = i := by
    by_cases h0 : i = 0
    · exact ⟨r.length - 1, by omega, by rw [show r.length - 1 + 1 = r.length by omega, Nat.mod_self, h0]⟩
    · exact ⟨i - 1, by omega, by rw [show i - 1 + 1 = i by omega, Nat.mod_eq_of_lt hi]⟩
  have hjm : (j + 1) % r.length = if j + 1 < r.length then j + 1 else j + 1 - r.length := mod_two (by omega)
  have hrj : rv r (j + 1) = at0 r i := by unfold rv; rw [hji]
  obtain ⟨i1, hi1⟩ : ∃ i1, i1 = (i + 1) % r.length := ⟨_, rfl⟩
  have hlt1 : i1 < r.length := by rw [hi1]; exact Nat.mod_lt _ (by omega)
  have hr1 : rv r (i + 1) = at0 r i1 := by unfold rv; rw [hi1]
  have hm2 : (i1 + 1) % r.length = if i1 + 1 < r.length then i1 + 1 else i1 + 1 - r.length := mod_two (by omega)
  rw [← hi1] at hm1
  have hi1i : i1 ≠ i := by split at hm1 <;> omega
  have c1 : 0 < det (at0 r i1) (rv r (i1 + 1)) (at0 r i) := h.convex i1 i hlt1 hi (fun e => hi1i e.symm) (by rw [hm2]; split <;> split at hm1 <;> omega)
  have c2 : 0 < det (at0 r j) (rv r (j + 1)) (at0 r i1) := h.convex j i1 hj hlt1 (by rw [hji] at hjm; split at hjm <;> split at hm1 <;> omega) (by rw [hji]; exact hi1i)
  rw [hrj] at c2
  have hne : at0 r i1 ≠ at0 r i := fun e => by rw [e, det_self] at c1; omega
  rw [hr1]
  refine ⟨hne, fun x hx => ?_, fun x hx hxv h0 => ?_⟩
  · have := h.left i hi x hx
    rw [hr1] at this
    exact this
  · have l1 := h.left i1 hlt1 x hx
    have l2 := h.left j hj x hx
    rw [hrj] at l2
    exact near_of hne hxv h0 l1 c1 l2 c2
theorem rv_mem {r : List Pt} {i : Nat} (h : 0 < r.length) : rv r i ∈ r := by
  unfold rv
  rw [at0_eq (Nat.mod_lt _ h)]
  exact List.getElem_mem _
theorem next_hull {l r : List Pt} (h : IsHull l r) {i : Nat} (hi : i < r.length) : nextC l (at0 r i) = rv r (i + 1) :=
  next_ahead (hull_ahead h hi) (h.sub _ (rv_mem (by omega)))
/-- The vertices differ from the first. -/
theorem at_ne_first {l r : List Pt} (h : IsHull l r) {k : Nat} (hk : k < r.length) (h0 : k ≠ 0) : at0 r k ≠ at0 r 0 := by
  have h3 := h.three
  intro e
  by_cases h1 : k = 1
  · subst h1
    have c := h.convex 0 2 (by omega) (by omega) (by omega) (by rw [Nat.mod_eq_of_lt (by omega)]; omega)
    rw [show rv r (0 + 1) = at0 r 1 from by unfold rv; rw [Nat.mod_eq_of_lt (by omega)], e, det_same] at c
    omega
  · have c := h.convex 0 k (by omega) hk h0 (by rw [Nat.mod_eq_of_lt (by omega)]; omega)
    rw [e, det_self] at c
    omega
end Go.Proofs.YtpbgimdbhgahkaaGreat
