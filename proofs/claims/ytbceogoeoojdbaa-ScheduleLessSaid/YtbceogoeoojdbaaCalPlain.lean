/- Plain law of the calendar: intervals, open times and how many there are. -/
namespace Go.Proofs.Ytbceogoeoojdbaa

/-- Does a time lie in one of some intervals? -/
def inI (l : List (Int × Int)) (t : Int) : Bool := l.any fun s => decide (s.1 ≤ t) && decide (t < s.2)
/-- Are intervals ascending and apart, behind 'last', up to 'most'? -/
def ascI (most : Int) : Int → List (Int × Int) → Bool
  | _, [] => true
  | last, s :: l => decide (last < s.1) && decide (s.1 < s.2) && decide (s.2 ≤ most) && ascI most s.2 l
def openI (P : Int) (S D : List (Int × Int)) (t : Int) : Bool := inI S (t % P) && !inI D t
/-- How many of n times from a on are of a kind. -/
def cnt (f : Int → Bool) (a : Int) : Nat → Int
  | 0 => 0
  | n + 1 => cnt f a n + (if f (a + n) = true then 1 else 0)
def wholeI : List (Int × Int) → Int
  | [] => 0
  | s :: l => (s.2 - s.1) + wholeI l
def restI (r : Int) : List (Int × Int) → Int
  | [] => 0
  | s :: l => max 0 (min r s.2 - s.1) + restI r l
def shiftedI (P : Int) (S : List (Int × Int)) (t : Int) : Int := t / P * wholeI S + restI (t % P) S
/-- What the closings take of the work from a to b. -/
def lostI (P : Int) (S : List (Int × Int)) (a b : Int) : List (Int × Int) → Int
  | [] => 0
  | d :: l => (if max a d.1 < min b d.2 then shiftedI P S (min b d.2) - shiftedI P S (max a d.1) else 0) + lostI P S a b l
def workI (P : Int) (S D : List (Int × Int)) (a b : Int) : Int := shiftedI P S b - shiftedI P S a - lostI P S a b D

theorem inI_cons (s : Int × Int) (l : List (Int × Int)) (t : Int) : inI (s :: l) t = (decide (s.1 ≤ t ∧ t < s.2) || inI l t) := by
  unfold inI; rw [List.any_cons, Bool.decide_and]
theorem inI_nil (t : Int) : inI [] t = false := rfl
theorem ascI_cons {most last : Int} {s : Int × Int} {l : List (Int × Int)} : ascI most last (s :: l) = true ↔ last < s.1 ∧ s.1 < s.2 ∧ s.2 ≤ most ∧ ascI most s.2 l = true := by
  simp [ascI, and_assoc]
theorem ascI_weak {most last last' : Int} {l : List (Int × Int)} (h : ascI most last l = true) (hl : last' ≤ last) : ascI most last' l = true := by
  cases l with
  | nil => rfl
  | cons s l => rw [ascI_cons] at h ⊢; exact ⟨by omega, h.2⟩
theorem ascI_most {most most' : Int} (hm : most ≤ most') : ∀ {l : List (Int × Int)} {last : Int}, ascI most last l = true → ascI most' last l = true
  | [], _, _ => rfl
  | s :: l, _, h => by rw [ascI_cons] at h ⊢; exact ⟨h.1, h.2.1, by omega, ascI_most hm h.2.2.2⟩
/-- Ahead of all. -/
theorem inI_ahead {most : Int} : ∀ {l : List (Int × Int)} {last t : Int}, ascI most last l = true → t ≤ last → inI l t = false
  | [], _, _, _, _ => rfl
  | s :: l, last, t, h, ht => by
    rw [ascI_cons] at h
    rw [inI_cons, inI_ahead h.2.2.2 (by omega)]
    simp; omega
/-- Behind all. -/
theorem inI_behind {most : Int} : ∀ {l : List (Int × Int)} {last t : Int}, ascI most last l = true → most ≤ t → inI l t = false
  | [], _, _, _, _ => rfl
  | s :: l, last, t, h, ht => by
    rw [ascI_cons] at h
    rw [inI_cons, inI_behind h.2.2.2 ht]
    simp; omega
/-- Ascending intervals that are apart are known by their times. -/
theorem ascI_unique {m1 m2 : Int} : ∀ {l m : List (Int × Int)} {a b : Int}, ascI m1 a l = true → ascI m2 b m = true → (∀ t, inI l t = inI m t) → l = m
  | [], [], _, _, _, _, _ => rfl
  | [], u :: m, _, _, _, h2, he => by
    rw [ascI_cons] at h2
    have := he u.1
    rw [inI_nil, inI_cons] at this
    simp at this; omega
  | s :: l, [], _, _, h1, _, he => by
    rw [ascI_cons] at h1
    have := he s.1
    rw [inI_nil, inI_cons] at this
    simp at this; omega
  | s :: l, u :: m, a, b, h1, h2, he => by
    have g1 := h1; have g2 := h2
    rw [ascI_cons] at h1 h2
    obtain ⟨_, hs, _, hl⟩ := h1
    obtain ⟨_, hu, _, hm⟩ := h2
    have lead : ∀ {s u : Int × Int} {l m : List (Int × Int)} {m1 m2 : Int}, s.1 < s.2 → u.1 < u.2 → ascI m1 s.2 l = true → ascI m2 u.2 m = true → (∀ t, inI (s :: l) t = inI (u :: m) t) → u.1 ≤ s.1 := by
      intro s u l m m1 m2 hs hu hl hm he
      rcases Int.lt_or_le s.1 u.1 with hlt | hge
      · have := he s.1
        rw [inI_cons, inI_cons, inI_ahead hm (by omega), show decide (s.1 ≤ s.1 ∧ s.1 < s.2) = true from by simp; omega, show decide (u.1 ≤ s.1 ∧ s.1 < u.2) = false from by simp; omega] at this
        cases this
      · exact hge
    have e1 : s.1 = u.1 := Int.le_antisymm (lead hu hs hm hl (fun t => (he t).symm)) (lead hs hu hl hm he)
    have tail : ∀ {s u : Int × Int} {l m : List (Int × Int)} {m1 m2 : Int}, s.1 = u.1 → s.1 < s.2 → u.1 < u.2 → ascI m1 s.2 l = true → ascI m2 u.2 m = true → (∀ t, inI (s :: l) t = inI (u :: m) t) → u.2 ≤ s.2 := by
      intro s u l m m1 m2 e hs hu hl hm he
      rcases Int.lt_or_le s.2 u.2 with hlt | hge
      · have := he s.2
        rw [inI_cons, inI_cons, inI_ahead hl (by omega), show decide (s.1 ≤ s.2 ∧ s.2 < s.2) = false from by simp, show decide (u.1 ≤ s.2 ∧ s.2 < u.2) = true from by simp; omega] at this
        cases this
      · exact hge
    have e2 : s.2 = u.2 := Int.le_antisymm (tail e1.symm hu hs hm hl (fun t => (he t).symm)) (tail e1 hs hu hl hm he)
    have es : s = u := Prod.ext e1 e2
    subst es
    have he' : ∀ t, inI l t = inI m t := by
      intro t
      rcases Int.lt_or_le s.2 t with hlt | hge
      · have := he t
        rw [inI_cons, inI_cons] at this
        have hd : decide (s.1 ≤ t ∧ t < s.2) = false := by simp; omega
        rwa [hd, Bool.false_or, Bool.false_or] at this
      · rw [inI_ahead hl hge, inI_ahead hm hge]
    rw [ascI_unique hl hm he']

theorem cnt_add (f : Int → Bool) (a : Int) (m : Nat) : ∀ n, cnt f a (m + n) = cnt f a m + cnt f (a + m) n
  | 0 => by simp [cnt]
  | n + 1 => by
    rw [← Nat.add_assoc]; simp only [cnt]; rw [cnt_add f a m n, show a + ↑(m + n) = a + ↑m + ↑n from by omega]; omega
theorem cnt_left (f : Int → Bool) (a : Int) (n : Nat) : cnt f a (n + 1) = (if f a = true then 1 else 0) + cnt f (a + 1) n := by
  rw [Nat.add_comm, cnt_add]; simp [cnt]
theorem cnt_bounds (f : Int → Bool) (a : Int) : ∀ n, 0 ≤ cnt f a n ∧ cnt f a n ≤ n
  | 0 => by simp [cnt]
  | n + 1 => by have := cnt_bounds f a n; simp only [cnt]; split <;> omega
theorem cnt_mono (f : Int → Bool) (a : Int) (m n : Nat) (h : m ≤ n) : cnt f a m ≤ cnt f a n := by
  obtain ⟨k, rfl⟩ := Nat.exists_eq_add_of_le h
  rw [cnt_add]; have := cnt_bounds f (a + m) k; omega
theorem cnt_congr {f g : Int → Bool} {a : Int} : ∀ {n : Nat}, (∀ i : Nat, i < n → f (a + i) = g (a + i)) → cnt f a n = cnt g a n
  | 0, _ => rfl
  | n + 1, h => by simp only [cnt]; rw [cnt_congr (fun i hi => h i (by omega)), h n (by omega)]
theorem cnt_le {f g : Int → Bool} {a : Int} : ∀ {n : Nat}, (∀ i : Nat, i < n → f (a + i) = true → g (a + i) = true) → cnt f a n ≤ cnt g a n
  | 0, _ => Int.le_refl _
  | n + 1, h => by
    simp only [cnt]
    have h1 := cnt_le (n := n) (fun i hi => h i (by omega))
    have h2 := h n (by omega)
    by_cases hf : f (a + n) = true
    · rw [if_pos hf, if_pos (h2 hf)]; omega
    · rw [if_neg hf]; split <;> omega
theorem cnt_zero {f : Int → Bool} {a : Int} {n : Nat} : cnt f a n = 0 ↔ ∀ i : Nat, i < n → f (a + i) = false := by
  induction n with
  | zero => simp [cnt]
  | succ n ih =>
    have hb := cnt_bounds f a n
    simp only [cnt]
    by_cases hf : f (a + n) = true
    · rw [if_pos hf]
      constructor
      · intro h; omega
      · intro h; rw [h n (by omega)] at hf; cases hf
    · rw [if_neg hf, Int.add_zero, ih]
      constructor
      · intro h i hi
        rcases Nat.lt_succ_iff_lt_or_eq.1 hi with hlt | rfl
        · exact h i hlt
        · simpa using hf
      · intro h i hi; exact h i (by omega)

theorem restI_nonneg (r : Int) : ∀ l, 0 ≤ restI r l
  | [] => Int.le_refl _
  | s :: l => by have := restI_nonneg r l; simp only [restI]; omega
theorem restI_succ {most : Int} (r : Int) : ∀ {l : List (Int × Int)} {last : Int}, ascI most last l = true → restI (r + 1) l = restI r l + (if inI l r = true then 1 else 0)
  | [], _, _ => rfl
  | s :: l, last, h => by
    rw [ascI_cons] at h
    obtain ⟨_, h2, _, hl⟩ := h
    have ih := restI_succ r hl
    simp only [restI]
    rw [ih, inI_cons]
    by_cases hin : s.1 ≤ r ∧ r < s.2
    · rw [inI_ahead hl (by omega)]
      simp [hin]; omega
    · simp only [hin, decide_false, Bool.false_or]; omega
theorem restI_start {most : Int} (r : Int) : ∀ {l : List (Int × Int)} {last : Int}, ascI most last l = true → r ≤ last + 1 → restI r l = 0
  | [], _, _, _ => rfl
  | s :: l, last, h, hr => by
    rw [ascI_cons] at h
    obtain ⟨_, h2, _, hl⟩ := h
    simp only [restI]
    rw [restI_start r hl (by omega)]; omega
theorem restI_whole {most : Int} (r : Int) (hr : most ≤ r) : ∀ {l : List (Int × Int)} {last : Int}, ascI most last l = true → restI r l = wholeI l
  | [], _, _ => rfl
  | s :: l, last, h => by
    rw [ascI_cons] at h
    obtain ⟨_, h2, _, hl⟩ := h
    simp only [restI, wholeI]
    rw [restI_whole r hr hl]; omega
theorem wholeI_nonneg {most : Int} : ∀ {l : List (Int × Int)} {last : Int}, ascI most last l = true → 0 ≤ wholeI l
  | [], _, _ => Int.le_refl _
  | s :: l, last, h => by rw [ascI_cons] at h; have := wholeI_nonneg h.2.2.2; simp only [wholeI]; omega
theorem wholeI_le {most : Int} : ∀ {l : List (Int × Int)} {last : Int}, ascI most last l = true → last ≤ most → wholeI l ≤ most - last
  | [], _, _, hm => by simp only [wholeI]; omega
  | s :: l, last, h, hm => by rw [ascI_cons] at h; have := wholeI_le h.2.2.2 h.2.2.1; simp only [wholeI]; omega
/-- How many times lie in ascending intervals: the sum of their lengths. -/
theorem cnt_inI {most last : Int} {l : List (Int × Int)} (h : ascI most last l = true) (n : Nat) (hn : most ≤ last + 1 + n) : cnt (inI l) (last + 1) n = wholeI l := by
  have key : ∀ k : Nat, cnt (inI l) (last + 1) k = restI (last + 1 + k) l := by
    intro k
    induction k with
    | zero => simp [cnt]; rw [restI_start _ h (by omega)]
    | succ k ih =>
      simp only [cnt]; rw [ih, show last + 1 + ((k + 1 : Nat) : Int) = last + 1 + k + 1 from by omega, restI_succ _ h]
  rw [key, restI_whole _ (by omega) h]

theorem mod_step {P t : Int} (hP : 1 ≤ P) : (t % P + 1 < P ∧ (t + 1) % P = t % P + 1 ∧ (t + 1) / P = t / P) ∨ (t % P + 1 = P ∧ (t + 1) % P = 0 ∧ (t + 1) / P = t / P + 1) := by
  have h1 := Int.emod_nonneg t (show P ≠ 0 by omega)
  have h2 := Int.emod_lt_of_pos t (show 0 < P by omega)
  have h3 := Int.mul_ediv_add_emod t P
  by_cases hlt : t % P + 1 < P
  · left
    have := (Int.ediv_emod_unique (a := t + 1) (b := P) (r := t % P + 1) (q := t / P) (by omega)).2 ⟨by omega, by omega, hlt⟩
    exact ⟨hlt, this.2, this.1⟩
  · right
    have := (Int.ediv_emod_unique (a := t + 1) (b := P) (r := 0) (q := t / P + 1) (by omega)).2 ⟨by rw [Int.mul_add]; omega, by omega, by omega⟩
    exact ⟨by omega, this.2, this.1⟩
theorem shiftedI_succ {P : Int} {S : List (Int × Int)} (hP : 1 ≤ P) (hS : ascI P (-1) S = true) (t : Int) : shiftedI P S (t + 1) = shiftedI P S t + (if inI S (t % P) = true then 1 else 0) := by
  unfold shiftedI
  have hs := restI_succ (t % P) hS
  rcases mod_step (t := t) hP with ⟨_, e1, e2⟩ | ⟨h, e1, e2⟩
  · rw [e1, e2, hs]; omega
  · rw [e1, e2, restI_start 0 hS (by omega), Int.add_mul]
    rw [h, restI_whole P (Int.le_refl _) hS] at hs
    omega
theorem lostI_succ {P : Int} {S : List (Int × Int)} (hP : 1 ≤ P) (hS : ascI P (-1) S = true) {most : Int} (a b : Int) (hab : a ≤ b) : ∀ {D : List (Int × Int)} {last : Int}, ascI most last D = true →
    lostI P S a (b + 1) D = lostI P S a b D + (if inI D b = true then (if inI S (b % P) = true then 1 else 0) else 0)
  | [], _, _ => by simp [lostI, inI_nil]
  | d :: D, last, h => by
    rw [ascI_cons] at h
    obtain ⟨_, h2, _, hl⟩ := h
    have ih := lostI_succ hP hS a b hab hl
    have hs := shiftedI_succ hP hS b
    simp only [lostI]
    rw [ih, inI_cons]
    by_cases hin : d.1 ≤ b ∧ b < d.2
    · rw [inI_ahead hl (by omega), show min (b + 1) d.2 = b + 1 from by omega, show min b d.2 = b from by omega, if_pos (show max a d.1 < b + 1 by omega)]
      simp only [hin, and_self, decide_true, Bool.or_false, if_true]
      by_cases hm : max a d.1 < b
      · rw [if_pos hm, hs]; simp; omega
      · rw [if_neg hm, show max a d.1 = b from by omega, hs]; simp; omega
    · simp only [hin, decide_false, Bool.false_or]
      rcases Int.lt_or_le b d.1 with hlt | hge
      · rw [if_neg (show ¬ max a d.1 < min (b + 1) d.2 by omega), if_neg (show ¬ max a d.1 < min b d.2 by omega)]; omega
      · rw [show min (b + 1) d.2 = min b d.2 from by omega]; omega
/-- The work is the number of the open times. -/
theorem workI_cnt {P : Int} {S D : List (Int × Int)} {most last : Int} (hP : 1 ≤ P) (hS : ascI P (-1) S = true) (hD : ascI most last D = true) (a : Int) : ∀ n : Nat, workI P S D a (a + n) = cnt (openI P S D) a n
  | 0 => by
    have z : ∀ D, lostI P S a a D = 0 := by
      intro D
      induction D with
      | nil => rfl
      | cons d D ih => simp only [lostI]; rw [ih]; split <;> omega
    simp [workI, cnt, z]
  | n + 1 => by
    have ih := workI_cnt hP hS hD a n
    have h1 := shiftedI_succ hP hS (a + n)
    have h2 := lostI_succ hP hS a (a + n) (by omega) hD
    simp only [cnt]
    rw [← ih]
    unfold workI at *
    rw [show a + ((n + 1 : Nat) : Int) = a + n + 1 from by omega, h1, h2]
    unfold openI
    cases inI S ((a + n) % P) <;> cases inI D (a + n) <;> simp <;> omega

/-- The least place of n that is of a kind; n if there is none. -/
def least (p : Nat → Bool) : Nat → Nat
  | 0 => 0
  | n + 1 => if least p n < n then least p n else if p n = true then n else n + 1
theorem least_spec (p : Nat → Bool) : ∀ n, least p n ≤ n ∧ (∀ i, i < least p n → p i = false) ∧ (least p n < n → p (least p n) = true)
  | 0 => ⟨Nat.le_refl _, (by intro i hi; exact absurd hi (Nat.not_lt_zero _)), (by intro h; exact absurd h (Nat.not_lt_zero _))⟩
  | n + 1 => by
    obtain ⟨h1, h2, h3⟩ := least_spec p n
    simp only [least]
    by_cases hlt : least p n < n
    · rw [if_pos hlt]; exact ⟨by omega, h2, fun _ => h3 hlt⟩
    · have e : least p n = n := by omega
      rw [if_neg hlt]
      rw [e] at h2
      by_cases hp : p n = true
      · rw [if_pos hp]; exact ⟨by omega, h2, fun _ => hp⟩
      · rw [if_neg hp]
        refine ⟨Nat.le_refl _, fun i hi => ?_, fun h => absurd h (Nat.lt_irrefl _)⟩
        rcases Nat.lt_succ_iff_lt_or_eq.1 hi with h | rfl
        · exact h2 i h
        · simpa using hp
theorem least_is {p : Nat → Bool} {n m : Nat} (h1 : m ≤ n) (h2 : ∀ i, i < m → p i = false) (h3 : m < n → p m = true) : least p n = m := by
  obtain ⟨k1, k2, k3⟩ := least_spec p n
  rcases Nat.lt_trichotomy (least p n) m with h | h | h
  · have a := h2 _ h
    rw [k3 (by omega)] at a; cases a
  · exact h
  · have a := k2 _ h
    rw [h3 (by omega)] at a; cases a
theorem least_congr {p q : Nat → Bool} {n : Nat} (h : ∀ i, i < n → p i = q i) : least p n = least q n := by
  obtain ⟨k1, k2, k3⟩ := least_spec q n
  exact least_is k1 (fun i hi => by rw [h i (by omega)]; exact k2 i hi) (fun hlt => by rw [h _ hlt]; exact k3 hlt)
/-- What sort.Search counts. -/
theorem least_count {p : Nat → Bool} {n : Nat} (hm : ∀ a b, a ≤ b → b < n → p a = true → p b = true) : (List.range n).countP (fun i => !p i) = least p n := by
  obtain ⟨k1, k2, k3⟩ := least_spec p n
  generalize least p n = m at *
  obtain ⟨k, rfl⟩ := Nat.exists_eq_add_of_le k1
  rw [List.range_add, List.countP_append]
  have e1 : (List.range m).countP (fun i => !p i) = m := by
    have := List.countP_eq_length (p := fun i => !p i) (l := List.range m)
    rw [List.length_range] at this
    exact this.2 (fun i hi => by rw [k2 i (by simpa using hi)]; rfl)
  have e2 : (List.map (fun x => m + x) (List.range k)).countP (fun i => !p i) = 0 := by
    rw [List.countP_eq_zero]
    intro i hi
    simp only [List.mem_map, List.mem_range] at hi
    obtain ⟨j, hj, rfl⟩ := hi
    rw [hm m (m + j) (by omega) (by omega) (k3 (by omega))]; simp
  omega
/-- The first open time: found by one open time after the other, or by the first that has some work behind it. -/
theorem least_open (f : Int → Bool) (t : Int) (n : Nat) : least (fun i => decide (0 < cnt f t (i + 1))) n = least (fun i => f (t + i)) n := by
  obtain ⟨k1, k2, k3⟩ := least_spec (fun i => f (t + i)) n
  generalize least (fun i => f (t + i)) n = m at *
  refine least_is k1 (fun i hi => ?_) (fun hlt => ?_)
  · have : cnt f t (i + 1) = 0 := cnt_zero.2 (fun j hj => k2 j (by omega))
    simp [this]
  · have h := k3 hlt
    have hb := cnt_bounds f t m
    have e : cnt f t (m + 1) = cnt f t m + 1 := by
      show cnt f t m + (if f (t + m) = true then 1 else 0) = _
      rw [if_pos h]
    rw [e]; simp; omega

end Go.Proofs.Ytbceogoeoojdbaa
