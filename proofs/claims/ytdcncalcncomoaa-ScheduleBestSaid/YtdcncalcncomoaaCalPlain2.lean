/- Plain law of the calendar: intervals, open times and how many there are. -/
namespace Go.Proofs.Ytdcncalcncomoaa

/-- Does a time lie in one of some intervals? -/
def inI (l : List (Int × Int)) (t : Int) : Bool := l.any fun s => decide (s.1 ≤ t) && decide (t < s.2)
/-- Are intervals ascending and apart, behind 'last', up to 'most'? -/
def ascI (most : Int) : Int → List (Int × Int) → Bool
  | _, [] => true
  | last, s :: l => decide (last < s.1) && decide (s.1 < s.2) && decide (s.2 ≤ most) && ascI most s.2 l
def openI (P : Int) (S D : List (Int × Int)) (t : Int) : Bool := inI S (t % P) && !inI D t
/-- How many of n times from a on are of a kind. -/
def cnt (f : Int → Bool) (a : Int) : Nat → Int
  | 0 => 0
  | n + 1 => cnt f a n + (if f (a + n) = true then 1 else 0)
def wholeI : List (Int × Int) → Int
  | [] => 0
  | s :: l => (s.2 - s.1) + wholeI l
def restI (r : Int) : List (Int × Int) → Int
  | [] => 0
  | s :: l => max 0 (min r s.2 - s.1) + restI r l
def shiftedI (P : Int) (S : List (Int × Int)) (t : Int) : Int := t / P * wholeI S + restI (t % P) S
/-- What the closings take of the work from a to b. -/
def lostI (P : Int) (S : List (Int × Int)) (a b : Int) : List (Int × Int) → Int
  | [] => 0
  | d :: l => (if max a d.1 < min b d.2 then shiftedI P S (min b d.2) - shiftedI P S (max a d.1) else 0) + lostI P S a b l
def workI (P : Int) (S D : List (Int × Int)) (a b : Int) : Int := shiftedI P S b - shiftedI P S a - lostI P S a b D

theorem inI_cons (s : Int × Int) (l : List (Int × Int)) (t : Int) : inI (s :: l) t = (decide (s.1 ≤ t ∧ t < s.2) || inI l t) := by
  unfold inI; rw [List.any_cons, Bool.decide_and]
theorem inI_nil (t : Int) : inI [] t = false := rfl
theorem ascI_cons {most last : Int} {s : Int × Int} {l : List (Int × Int)} : ascI most last (s :: l) = true ↔ last < s.1 ∧ s.1 < s.2 ∧ s.2 ≤ most ∧ ascI most s.2 l = true := by
  simp [ascI, and_assoc]
theorem ascI_weak {most last last' : Int} {l : List (Int × Int)} (h : ascI most last l = true) (hl : last' ≤ last) : ascI most last' l = true := by
  cases l with
  | nil => rfl
  | cons s l => rw [ascI_cons] at h ⊢; exact ⟨by omega, h.2⟩
theorem ascI_most {most most' : Int} (hm : most ≤ most') : ∀ {l : List (Int × Int)} {last : Int}, ascI most last l = true → ascI most' last l = true
  | [], _, _ => rfl
  | s :: l, _, h => by rw [ascI_cons] at h ⊢; exact ⟨h.1, h.2.1, by omega, ascI_most hm h.2.2.2⟩
/-- Ahead of all. -/
theorem inI_ahead {most : Int} : ∀ {l : List (Int × Int)} {last t : Int}, ascI most last l = true → t ≤ last → inI l t = false
  | [], _, _, _, _ => rfl
  | s :: l, last, t, h, ht => by
    rw [ascI_cons] at h
    rw [inI_cons, inI_ahead h.2.2.2 (by omega)]
    simp; omega
/-- Behind all. -/
theorem inI_behind {most : Int} : ∀ {l : List (Int × Int)} {last t : Int}, ascI most last l = true → most ≤ t → inI l t = false
  | [], _, _, _, _ => rfl
  | s :: l, last, t, h, ht => by
    rw [ascI_cons] at h
    rw [inI_cons, inI_behind h.2.2.2 ht]
    simp; omega
/-- Ascending intervals that are apart are known by their times. -/
theorem ascI_unique {m1 m2 : Int} : ∀ {l m : List (Int × Int)} {a b : Int}, ascI m1 a l = true → ascI m2 b m = true → (∀ t, inI l t = inI m t) → l = m
  | [], [], _, _, _, _, _ => rfl
  | [], u :: m, _, _, _, h2, he => by
    rw [ascI_cons] at h2
    have := he u.1
    rw [inI_nil, inI_cons] at this
    simp at this; omega
  | s :: l, [], _, _, h1, _, he => by
    rw [ascI_cons] at h1
    have := he s.1
    rw [inI_nil, inI_cons] at this
    simp at this; omega
  | s :: l, u :: m, a, b, h1, h2, he => by
    have g1 := h1; have g2 := h2
    rw [ascI_cons] at h1 h2
    obtain ⟨_, hs, _, hl⟩ := h1
    obtain ⟨_, hu, _, hm⟩ := h2
    have lead : ∀ {s u : Int × Int} {l m : List (Int × Int)} {m1 m2 : Int}, s.1 < s.2 → u.1 < u.2 → ascI m1 s.2 l = true → ascI m2 u.2 m = true → (∀ t, inI (s :: l) t = inI (u :: m) t) → u.1 ≤ s.1 := by
      intro s u l m m1 m2 hs hu hl hm he
      rcases Int.lt_or_le s.1 u.1 with hlt | hge
      · have := he s.1
        rw [inI_cons, inI_cons, inI_ahead hm (by omega), show decide (s.1 ≤ s.1 ∧ s.1 < s.2) = true from by simp; omega, show decide (u.1 ≤ s.1 ∧ s.1 < u.2) = false from by simp; omega] at this
        cases this
      · exact hge
    have e1 : s.1 = u.1 := Int.le_antisymm (lead hu hs hm hl (fun t => (he t).symm)) (lead hs hu hl hm he)
    have tail : ∀ {s u : Int × Int} {l m : List (Int × Int)} {m1 m2 : Int}, s.1 = u.1 → s.1 < s.2 → u.1 < u.2 → ascI m1 s.2 l = true → ascI m2 u.2 m = true → (∀ t, inI (s :: l) t = inI (u :: m) t) → u.2 ≤ s.2 := by
      intro s u l m m1 m2 e hs hu hl hm he
      rcases Int.lt_or_le s.2 u.2 with hlt | hge
      · have := he s.2
        rw [inI_cons, inI_cons, inI_ahead hl (by omega), show decide (s.1 ≤ s.2 ∧ s.2 < s.2) = false from by simp, show decide (u.1 ≤ s.2 ∧ s.2 < u.2) = true from by simp; omega] at this
        cases this
      · exact hge
    have e2 : s.2 = u.2 := Int.le_antisymm (tail e1.symm hu hs hm hl (fun t => (he t).symm)) (tail e1 hs hu hl hm he)
    have es : s = u := Prod.ext e1 e2
    subst es
    have he' : ∀ t, inI l t = inI m t := by
      intro t
      rcases Int.lt_or_le s.2 t with hlt | hge
      · have := he t
        rw [inI_cons, inI_cons] at this
        have hd : decide (s.1 ≤ t ∧ t < s.2) = false := by simp; omega
        rwa [hd, Bool.false_or, Bool.false_or] at this
      · rw [inI_ahead hl hge, inI_ahead hm hge]
    rw [ascI_unique hl hm he']

theorem cnt_add (f : Int → Bool) (a : Int) (m : Nat) : ∀ n, cnt f a (m + n) = cnt f a m + cnt f (a + m) n
  | 0 => by simp [cnt]
  | n + 1 => by
    rw [← Nat.add_assoc]; simp only [cnt]; rw [cnt_add f a m n, show a + ↑(m + n) = a + ↑m + ↑n from by omega]; omega
theorem cnt_left (f : Int → Bool) (a : Int) (n : Nat) : cnt f a (n + 1) = (if f a = true then 1 else 0) + cnt f (a + 1) n := by
  rw [Nat.add_comm, cnt_add]; simp [cnt]
theorem cnt_bounds (f : Int → Bool) (a : Int) : ∀ n, 0 ≤ cnt f a n ∧ cnt f a n ≤ n
  | 0 => by simp [cnt]
  | n + 1 => by have := cnt_bounds f a n; simp only [cnt]; split <;> omega
theorem cnt_mono (f : Int → Bool) (a : Int) (m n : Nat) (h : m ≤ n) : cnt f a m ≤ cnt f a n := by
  obtain ⟨k, rfl⟩ := Nat.exists_eq_add_of_le h
  rw [cnt_add]; have := cnt_bounds f (a + m) k; omega
theorem cnt_congr {f g : Int → Bool} {a : Int} : ∀ {n : Nat}, (∀ i : Nat, i < n → f (a + i) = g (a + i)) → cnt f a n = cnt g a n
  | 0, _ => rfl
  | n + 1, h => by simp only [cnt]; rw [cnt_congr (fun i hi => h i (by omega)), h n (by omega)]
theorem cnt_le {f g : Int → Bool} {a : Int} : ∀ {n : Nat}, (∀ i : Nat, i < n → f (a + i) = true → g (a + i) = true) → cnt f a n ≤ cnt g a n
  | 0, _ => Int.le_refl _
  | n + 1, h => by
    simp only [cnt]
    have h1 := cnt_le (n := n) (fun i hi => h i (by omega))
    have h2 := h n (by omega)
    by_cases hf : f (a + n) = true
    · rw [if_pos hf, if_pos (h2 hf)]; omega
    · rw [if_neg hf]; split <;> omega
theorem cnt_zero {f : Int → Bool} {a : Int} {n : Nat} : cnt f a n = 0 ↔ ∀ i : Nat, i < n → f (a + i) = false := by
  induction n with
  | zero => simp [cnt]
  | succ n ih =>
    have hb := cnt_bounds f a n
    simp only [cnt]
    by_cases hf : f (a + n) = true
    · rw [if_pos hf]
      constructor
      · intro h; omega
      · intro h; rw [h n (by omega)] at hf; cases hf
    · rw [if_neg hf, Int.add_zero, ih]
      constructor
      · intro h i hi
        rcases Nat.lt_succ_iff_lt_or_eq.1 hi with hlt | rfl
        · exact h i hlt
        · simpa using hf
      · intro h i hi; exact h i (by omega)

theorem restI_nonneg (r : Int) : ∀ l, 0 ≤ restI r l
  | [] => Int.le_refl _
  | s :: l => by have := restI_nonneg r l; simp only [restI]; omega
theorem restI_succ {most : Int} (r : Int) : ∀ {l : List (Int × Int)} {last : Int}, ascI most last l = true → restI (r + 1) l = restI r l + (if inI l r = true then 1 else 0)
  | [], _, _ => rfl
  | s :: l, last, h => by
    rw [ascI_cons] at h
    obtain ⟨_, h2, _, hl⟩ := h
    have ih := restI_succ r hl
    simp only [restI]
    rw [ih, inI_cons]
    by_cases hin : s.1 ≤ r ∧ r < s.2
    · rw [inI_ahead hl (by omega)]
      simp [hin]; omega
    · simp only [hin, decide_false, Bool.false_or]; omega
theorem restI_start {most : Int} (r : Int) : ∀ {l : List (Int × Int)} {last : Int}, ascI most last l = true → r ≤ last + 1 → restI r l = 0
  | [], _, _, _ => rfl
  | s :: l, last, h, hr => by
    rw [ascI_cons] at h
    obtain ⟨_, h2, _, hl⟩ := h
    simp only [restI]
    rw [restI_start r hl (by omega)]; omega
theorem restI_whole {most : Int} (r : Int) (hr : most ≤ r) : ∀ {l : List (Int × Int)} {last : Int}, ascI most last l = true → restI r l = wholeI l
  | [], _, _ => rfl
  | s :: l, last, h => by
    rw [ascI_cons] at h
    obtain ⟨_, h2, _, hl⟩ := h
    simp only [restI, wholeI]
    rw [restI_whole r hr hl]; omega
theorem wholeI_nonneg {most : Int} : ∀ {l : List (Int × Int)} {last : Int}, ascI most last l = true → 0 ≤ wholeI l
  | [], _, _ => Int.le_refl _
  | s :: l, last, h => by rw [ascI_cons] at h; have := wholeI_nonneg h.2.2.2; simp only [wholeI]; omega
theorem wholeI_le {most : Int} : ∀ {l : List (Int × Int)} {last : Int}, ascI most last l = true → last ≤ most → wholeI l ≤ most - last
  | [], _, _, hm => by simp only [wholeI]; omega
  | s :: l, last, h, hm => by rw [ascI_cons] at h; have := wholeI_le h.2.2.2 h.2.2.1; simp only [wholeI]; omega
/-- How many times lie in ascending intervals: the sum of their lengths. -/
theorem cnt_inI {most last : Int} {l : List (Int × Int)} (h : ascI most last l = true) (n : Nat) (hn : most ≤ last + 1 + n) : cnt (inI l) (last + 1) n = wholeI l := by
  have key : ∀ k : Nat, cnt (inI l) (last + 1) k = restI (last + 1 + k) l := by
    intro k
    induction k with
    | zero => simp [cnt]; rw [restI_start _ h (by omega)]
    | succ k ih =>
      simp only [cnt]; rw [ih, show last + 1 + ((k + 1 : Nat) : Int) = last + 1 + k + 1 from by omega, restI_succ _ h]
  rw [key, restI_whole _ (by omega) h]

theorem mod_step {P t : Int} (hP : 1 ≤ P) : (t % P + 1 < P ∧ (t + 1) % P = t % P + 1 ∧ (t + 1) / P = t / P) ∨ (t % P + 1 = P ∧ (t + 1) % P = 0 ∧ (t + 1) / P = t / P + 1) := by
  have h1 := Int.emod_nonneg t (show P ≠ 0 by omega)
  have h2 := Int.emod_lt_of_pos t (show 0 < P by omega)
  have h3 := Int.mul_ediv_add_emod t P
  by_cases hlt : t % P + 1 < P
  · left
    have := (Int.ediv_emod_unique (a := t + 1) (b := P) (r := t % P + 1) (q := t / P) (by omega)).2 ⟨by omega, by omega, hlt⟩
    exact ⟨hlt, this.2, this.1⟩
  · right
    have := (Int.ediv_emod_unique (a := t + 1) (b := P) (r := 0) (q := t / P + 1) (by omega)).2 ⟨by rw [Int.mul_add]; omega, by omega, by omega⟩
    exact ⟨by omega, this.2, this.1⟩
theorem shiftedI_succ {P : Int} {S : List (Int × Int)} (hP : 1 ≤ P) (hS : ascI P (-1) S = true) (t : Int) : shiftedI P S (t + 1) = shiftedI P S t + (if inI S (t % P) = true then 1 else 0) := by
  unfold shiftedI
  have hs := restI_succ (t % P) hS
  rcases mod_step (t := t) hP with ⟨_, e1, e2⟩ | ⟨h, e1, e2⟩
  · rw [e1, e2, hs]; omega
  · rw [e1, e2, restI_start 0 hS (by omega), Int.add_mul]
    rw [h, restI_whole P (Int.le_refl _) hS] at hs
    omega
theorem lostI_succ {P : Int} {S : List (Int × Int)} (hP : 1 ≤ P) (hS : ascI P (-1) S = true) {most : Int} (a b : Int) (hab : a ≤ b) : ∀ {D : List (Int × Int)} {last : Int}, ascI most last D = true →
    lostI P S a (b + 1) D = lostI P S a b D + (if inI D b = true then (if inI S (b % P) = true then 1 else 0) else 0)
  | [], _, _ => by simp [lostI, inI_nil]
  | d :: D, last, h => by
    rw [ascI_cons] at h
    obtain ⟨_, h2, _, hl⟩ := h
    have ih := lostI_succ hP hS a b hab hl
    have hs := shiftedI_succ hP hS b
    simp only [lostI]
    rw [ih, inI_cons]
    by_cases hin : d.1 ≤ b ∧ b < d.2
    · rw [inI_ahead hl (by omega), show min (b + 1) d.2 = b + 1 from by omega, show min b d.2 = b from by omega, if_pos (show max a d.1 < b + 1 by omega)]
      simp only [hin, and_self, decide_true, Bool.or_false, if_true]
      by_cases hm : max a d.1 < b
      · rw [if_pos hm, hs]; simp; omega
      · rw [if_neg hm, show max a d.1 = b from by omega, hs]; simp; omega
    · simp only [hin, decide_false, Bool.false_or]
      rcases Int.lt_or_le b d.1 with hlt | hge
      · rw [if_neg (show ¬ max a d.1 < min (b + 1) d.2 by omega), if_neg (show ¬ max a d.1 < min b d.2 by omega)]; omega
      · rw [show min (b + 1) d.2 = min b d.2 from by omega]; omega
/-- The work is the number of the open times. -/
theorem workI_cnt {P : Int} {S D : List (Int × Int)} {most last : Int} (hP : 1 ≤ P) (hS : ascI P (-1) S = true) (hD : ascI most last D = true) (a : Int) : ∀ n : Nat, workI P S D a (a + n) = cnt (openI P S D) a n
  | 0 => by
    have z : ∀ D, lostI P S a a D = 0 := by
      intro D
      induction D with
      | nil => rfl
      | cons d D ih => simp only [lostI]; rw [ih]; split <;> omega
    simp [workI, cnt, z]
  | n + 1 => by
    have ih := workI_cnt hP hS hD a n
    have h1 := shiftedI_succ hP hS (a + n)
    have h2 := lostI_succ hP hS a (a + n) (by omega) hD
    simp only [cnt]
    rw [← ih]
    unfold workI at *
    rw [show a + ((n + 1 : Nat) : Int) = a + n + 1 from by omega, h1, h2]
    unfold openI
    cases inI S ((a + n) % P) <;> cases inI D (a + n) <;> simp <;> omega

/-- The least place of n that is of a kind; n if there is none. -/
def least (p : Nat → Bool) : Nat → Nat
  | 0 => 0
  | n + 1 => if least p n < n then least p n else if p n = true then n else n + 1
theorem least_spec (p : Nat → Bool) : ∀ n, least p n ≤ n ∧ (∀ i, i < least p n → p i = false) ∧ (least p n < n → p (least p n) = true)
  | 0 => ⟨Nat.le_refl _, (by intro i hi; exact absurd hi (Nat.not_lt_zero _)), (by intro h; exact absurd h (Nat.not_lt_zero _))⟩
  | n + 1 => by
    obtain ⟨h1, h2, h3⟩ := least_spec p n
    simp only [least]
    by_cases hlt : least p n < n
    · rw [if_pos hlt]; exact ⟨by omega, h2, fun _ => h3 hlt⟩
    · have e : least p n = n := by omega
      rw [if_neg hlt]
      rw [e] at h2
      by_cases hp : p n = true
      · rw [if_pos hp]; exact ⟨by omega, h2, fun _ => hp⟩
      · rw [if_neg hp]
        refine ⟨Nat.le_refl _, fun i hi => ?_, fun h => absurd h (Nat.lt_irrefl _)⟩
        rcases Nat.lt_succ_iff_lt_or_eq.1 hi with h | rfl
        · exact h2 i h
        · simpa using hp
theorem least_is {p : Nat → Bool} {n m : Nat} (h1 : m ≤ n) (h2 : ∀ i, i < m → p i = false) (h3 : m < n → p m = true) : least p n = m := by
  obtain ⟨k1, k2, k3⟩ := least_spec p n
  rcases Nat.lt_trichotomy (least p n) m with h | h | h
  · have a := h2 _ h
    rw [k3 (by omega)] at a; cases a
  · exact h
  · have a := k2 _ h
    rw [h3 (by omega)] at a; cases a
theorem least_congr {p q : Nat → Bool} {n : Nat} (h : ∀ i, i < n → p i = q i) : least p n = least q n := by
  obtain ⟨k1, k2, k3⟩ := least_spec q n
  exact least_is k1 (fun i hi => by rw [h i (by omega)]; exact k2 i hi) (fun hlt => by rw [h _ hlt]; exact k3 hlt)
/-- What sort.Search counts. -/
theorem least_count {p : Nat → Bool} {n : Nat} (hm : ∀ a b, a ≤ b → b < n → p a = true → p b = true) : (List.range n).countP (fun i => !p i) = least p n := by
  obtain ⟨k1, k2, k3⟩ := least_spec p n
  generalize least p n = m at *
  obtain ⟨k, rfl⟩ := Nat.exists_eq_add_of_le k1
  rw [List.range_add, List.countP_append]
  have e1 : (List.range m).countP (fun i => !p i) = m := by
    have := List.countP_eq_length (p := fun i => !p i) (l := List.range m)
    rw [List.length_range] at this
    exact this.2 (fun i hi => by rw [k2 i (by simpa using hi)]; rfl)
  have e2 : (List.map (fun x => m + x) (List.range k)).countP (fun i => !p i) = 0 := by
    rw [List.countP_eq_zero]
    intro i hi
    simp only [List.mem_map, List.mem_range] at hi
    obtain ⟨j, hj, rfl⟩ := hi
    rw [hm m (m + j) (by omega) (by omega) (k3 (by omega))]; simp
  omega
/-- The first open time: found by one open time after the other, or by the first that has some work behind it. -/
theorem least_open (f : Int → Bool) (t : Int) (n : Nat) : least (fun i => decide (0 < cnt f t (i + 1))) n = least (fun i => f (t + i)) n := by
  obtain ⟨k1, k2, k3⟩ := least_spec (fun i => f (t + i)) n
  generalize least (fun i => f (t + i)) n = m at *
  refine least_is k1 (fun i hi => ?_) (fun hlt => ?_)
  · have : cnt f t (i + 1) = 0 := cnt_zero.2 (fun j hj => k2 j (by omega))
    simp [this]
  · have h := k3 hlt
    have hb := cnt_bounds f t m
    have e : cnt f t (m + 1) = cnt f t m + 1 := by
      show cnt f t m + (if f (t + m) = true then 1 else 0) = _
      rw [if_pos h]
    rw [e]; simp; omega

end Go.Proofs.Ytdcncalcncomoaa
/- Plain law of the calendar: closings that are merged, and the greatest intervals of open times. -/
namespace Go.Proofs.Ytdcncalcncomoaa

/-- Where the last interval ends. -/
def endI : Int → List (Int × Int) → Int
  | last, [] => last
  | _, s :: l => endI s.2 l
theorem ascI_append {most : Int} : ∀ {l : List (Int × Int)} {last : Int} {m : List (Int × Int)}, ascI most last (l ++ m) = true ↔ ascI most last l = true ∧ ascI most (endI last l) m = true
  | [], _, _ => by simp [ascI, endI]
  | s :: l, last, m => by
    rw [List.cons_append, ascI_cons, ascI_cons, ascI_append (l := l)]
    simp only [endI, and_assoc]
theorem ascI_snoc {most last : Int} {l : List (Int × Int)} {e : Int × Int} : ascI most last (l ++ [e]) = true ↔ ascI most last l = true ∧ endI last l < e.1 ∧ e.1 < e.2 ∧ e.2 ≤ most := by
  rw [ascI_append, ascI_cons]; simp [ascI]
theorem endI_append : ∀ (l : List (Int × Int)) (last : Int) (m : List (Int × Int)), endI last (l ++ m) = endI (endI last l) m
  | [], _, _ => rfl
  | s :: l, _, m => by rw [List.cons_append]; simp only [endI]; rw [endI_append l]
theorem endI_snoc (l : List (Int × Int)) (last : Int) (e : Int × Int) : endI last (l ++ [e]) = e.2 := by rw [endI_append]; rfl
theorem endI_le {most : Int} : ∀ {l : List (Int × Int)} {last : Int}, ascI most last l = true → last ≤ endI last l ∧ (last ≤ most → endI last l ≤ most)
  | [], _, _ => ⟨Int.le_refl _, id⟩
  | s :: l, last, h => by
    rw [ascI_cons] at h
    have := endI_le h.2.2.2
    simp only [endI]
    exact ⟨by omega, fun _ => this.2 h.2.2.1⟩
theorem inI_append (l m : List (Int × Int)) (t : Int) : inI (l ++ m) t = (inI l t || inI m t) := by unfold inI; rw [List.any_append]
theorem inI_snoc (l : List (Int × Int)) (e : Int × Int) (t : Int) : inI (l ++ [e]) t = (inI l t || decide (e.1 ≤ t ∧ t < e.2)) := by rw [inI_append, inI_cons, inI_nil, Bool.or_false]
theorem inI_end {most : Int} : ∀ {l : List (Int × Int)} {last t : Int}, ascI most last l = true → endI last l ≤ t → inI l t = false
  | [], _, _, _, _ => rfl
  | s :: l, last, t, h, ht => by
    rw [ascI_cons] at h
    simp only [endI] at ht
    have := (endI_le h.2.2.2).1
    rw [inI_cons, inI_end h.2.2.2 ht]
    simp; omega
theorem inI_perm {l m : List (Int × Int)} (h : l.Perm m) (t : Int) : inI l t = inI m t := by
  unfold inI; rw [Bool.eq_iff_iff, List.any_eq_true, List.any_eq_true]
  constructor
  · rintro ⟨x, hx, hp⟩; exact ⟨x, h.mem_iff.1 hx, hp⟩
  · rintro ⟨x, hx, hp⟩; exact ⟨x, h.mem_iff.2 hx, hp⟩

theorem set_last (l : List (Int × Int)) (e x : Int × Int) : (l ++ [e]).set ((l ++ [e]).length - 1) x = l ++ [x] := by
  rw [List.length_append, List.length_singleton, Nat.add_sub_cancel, List.set_append_right _ _ (Nat.le_refl _), Nat.sub_self]; rfl
theorem getD_last (l : List (Int × Int)) (e d : Int × Int) : (l ++ [e]).getD ((l ++ [e]).length - 1) d = e := by
  rw [List.length_append, List.length_singleton, Nat.add_sub_cancel, List.getD_eq_getElem?_getD, List.getElem?_append_right (Nat.le_refl _), Nat.sub_self]; rfl

/-- An interval more: the last one is made longer if they touch. -/
def addI (out : List (Int × Int)) (a b : Int) : List (Int × Int) :=
  if b ≤ a then out else if 0 < out.length ∧ (out.getD (out.length - 1) (0, 0)).2 = a then out.set (out.length - 1) ((out.getD (out.length - 1) (0, 0)).1, b) else out ++ [(a, b)]
/-- 'out' has the greatest intervals of the times of a kind from lo on that are less than x. -/
def Runs (f : Int → Bool) (lo hi : Int) (out : List (Int × Int)) (x : Int) : Prop := ascI hi (lo - 1) out = true ∧ ∀ t, inI out t = (decide (lo ≤ t ∧ t < x) && f t)
theorem Runs.nil (f : Int → Bool) (lo hi : Int) : Runs f lo hi [] lo := ⟨rfl, fun t => by rw [inI_nil, show decide (lo ≤ t ∧ t < lo) = false from by simp]; rfl⟩
theorem Runs.skip {f : Int → Bool} {lo hi : Int} {out : List (Int × Int)} {x y : Int} (h : Runs f lo hi out x) (hxy : x ≤ y) (hf : ∀ t, lo ≤ t → x ≤ t → t < y → f t = false) : Runs f lo hi out y := by
  refine ⟨h.1, fun t => ?_⟩
  rw [h.2 t]
  by_cases h1 : lo ≤ t ∧ t < x
  · rw [show decide (lo ≤ t ∧ t < y) = true from by simp; omega]; simp [h1]
  · rw [show decide (lo ≤ t ∧ t < x) = false from by simpa using h1]
    by_cases h2 : lo ≤ t ∧ t < y
    · rw [hf t h2.1 (by omega) h2.2]; simp
    · rw [show decide (lo ≤ t ∧ t < y) = false from by simpa using h2]
theorem Runs.last {f : Int → Bool} {lo hi : Int} {l : List (Int × Int)} {e : Int × Int} {x : Int} (h : Runs f lo hi (l ++ [e]) x) : e.2 ≤ x := by
  have h1 := ascI_snoc.1 h.1
  have h2 := h.2 (e.2 - 1)
  rw [inI_snoc, show decide (e.1 ≤ e.2 - 1 ∧ e.2 - 1 < e.2) = true from by simp; omega, Bool.or_true] at h2
  have := h2.symm
  rw [Bool.and_eq_true, decide_eq_true_eq] at this
  omega
theorem Runs.add {f : Int → Bool} {lo hi : Int} {out : List (Int × Int)} {x a b : Int} (h : Runs f lo hi out x) (hab : a < b) (hxa : x ≤ a) (hla : lo ≤ a) (hbh : b ≤ hi) (h0 : ∀ t, lo ≤ t → x ≤ t → t < a → f t = false) (h1 : ∀ t, a ≤ t → t < b → f t = true) :
    Runs f lo hi (addI out a b) b := by
  have hx := h.skip hxa h0
  have fin : ∀ t, (inI out t || decide (a ≤ t ∧ t < b)) = (decide (lo ≤ t ∧ t < b) && f t) := by
    intro t
    rw [hx.2 t]
    by_cases hin : a ≤ t ∧ t < b
    · rw [show decide (lo ≤ t ∧ t < b) = true from by simp; omega, h1 t hin.1 hin.2]; simp [hin]
    · rw [show decide (a ≤ t ∧ t < b) = false from by simpa using hin, Bool.or_false]
      by_cases h2 : lo ≤ t ∧ t < a
      · rw [show decide (lo ≤ t ∧ t < a) = true from by simpa using h2, show decide (lo ≤ t ∧ t < b) = true from by simp; omega]
      · rw [show decide (lo ≤ t ∧ t < a) = false from by simpa using h2, show decide (lo ≤ t ∧ t < b) = false from by simp; omega]
  unfold addI
  rw [if_neg (by omega)]
  rcases List.eq_nil_or_concat out with rfl | ⟨l, e, rfl⟩
  · simp only [List.length_nil, Nat.lt_irrefl, false_and, if_false, List.nil_append]
    exact ⟨by rw [ascI_cons]; exact ⟨by simp only; omega, hab, hbh, rfl⟩, fun t => by rw [← fin t, inI_cons, inI_nil, Bool.or_false, Bool.false_or]⟩
  · rw [List.concat_eq_append] at *
    rw [getD_last, set_last]
    have h3 := ascI_snoc.1 h.1
    have h4 := hx.last
    by_cases he : e.2 = a
    · rw [if_pos ⟨by simp, he⟩]
      refine ⟨ascI_snoc.2 ⟨h3.1, h3.2.1, by simp only; omega, hbh⟩, fun t => ?_⟩
      rw [← fin t, inI_snoc, inI_snoc, Bool.or_assoc]
      congr 1
      rw [Bool.eq_iff_iff]; simp; omega
    · rw [if_neg (by intro h; exact he h.2)]
      refine ⟨ascI_snoc.2 ⟨h.1, by rw [endI_snoc]; simp only; omega, hab, hbh⟩, fun t => ?_⟩
      rw [← fin t, inI_snoc]
theorem Runs.unique {f : Int → Bool} {lo hi lo' hi' : Int} {l m : List (Int × Int)} {x : Int} (h : Runs f lo hi l x) (k : Runs f lo' hi' m x) (e : lo = lo') : l = m := by
  subst e; exact ascI_unique h.1 k.1 (fun t => by rw [h.2, k.2])

/-- The intervals of one shift, less the closings. -/
def cutI (b : Int) : List (Int × Int) × Int → List (Int × Int) → List (Int × Int)
  | (out, a), [] => addI out a b
  | (out, a), d :: D => if a < d.2 ∧ d.1 < b then cutI b (addI out a d.1, d.2) D else cutI b (out, a) D
/-- The shifts of one period. -/
def roundI (D : List (Int × Int)) (lo hi begin : Int) : List (Int × Int) → List (Int × Int) → List (Int × Int)
  | out, [] => out
  | out, s :: S => roundI D lo hi begin (cutI (min hi (begin + s.2)) (out, max lo (begin + s.1)) D) S
theorem addI_no {out : List (Int × Int)} {a b : Int} (h : b ≤ a) : addI out a b = out := if_pos h
theorem cutI_no {b : Int} : ∀ {D : List (Int × Int)} {out : List (Int × Int)} {a : Int}, b ≤ a → cutI b (out, a) D = out
  | [], _, _, h => addI_no h
  | d :: D, out, a, h => by
    simp only [cutI]
    split
    · rw [addI_no (by omega)]; exact cutI_no (by omega)
    · exact cutI_no h
theorem cutI_runs {f : Int → Bool} {lo hi b : Int} (hbh : b ≤ hi) {most : Int} : ∀ {D : List (Int × Int)} {out : List (Int × Int)} {a last : Int}, ascI most last D = true → lo ≤ a → Runs f lo hi out (min a b) →
    (∀ t, a ≤ t → t < b → f t = !inI D t) → (∀ t, lo ≤ t → t < b → inI D t = true → f t = false) → lo ≤ b → Runs f lo hi (cutI b (out, a) D) b
  | [], out, a, last, _, hla, hr, hf, _, hlb => by
    simp only [cutI]
    by_cases hab : a < b
    · exact hr.add hab (by omega) hla hbh (fun t _ h1 h2 => by omega) (fun t h1 h2 => by rw [hf t h1 h2]; rfl)
    · rw [addI_no (by omega)]; rwa [show min a b = b from by omega] at hr
  | d :: D, out, a, last, h, hla, hr, hf, hin, hlb => by
    rw [ascI_cons] at h
    obtain ⟨h1, h2, h3, h4⟩ := h
    simp only [cutI]
    have hD : ∀ t, t < d.2 → inI D t = false := fun t ht => inI_ahead h4 (by omega)
    split
    · rename_i hc
      have key : Runs f lo hi (addI out a d.1) (min d.2 b) := by
        by_cases hab : a < d.1
        · refine Runs.skip (Runs.add hr hab (by omega) hla (by omega) (fun t _ g1 g2 => by omega) (fun t g1 g2 => ?_)) (by omega) (fun t g0 g1 g2 => ?_)
          · rw [hf t g1 (by omega), inI_cons, hD t (by omega)]; simp; omega
          · exact hin t g0 (by omega) (by rw [inI_cons, hD t (by omega)]; simp; omega)
        · rw [addI_no (by omega)]
          exact hr.skip (by omega) (fun t g0 g1 g2 => hin t g0 (by omega) (by rw [inI_cons, hD t (by omega)]; simp; omega))
      refine cutI_runs hbh h4 (by omega) key (fun t g1 g2 => ?_) (fun t g0 g1 g2 => hin t g0 g1 (by rw [inI_cons, g2, Bool.or_true])) hlb
      rw [hf t (by omega) g2, inI_cons]; congr 1
      rw [show decide (d.1 ≤ t ∧ t < d.2) = false from by simp; omega, Bool.false_or]
    · rename_i hc
      refine cutI_runs hbh h4 hla hr (fun t g1 g2 => ?_) (fun t g0 g1 g2 => hin t g0 g1 (by rw [inI_cons, g2, Bool.or_true])) hlb
      rw [hf t g1 g2, inI_cons]; congr 1
      rw [show decide (d.1 ≤ t ∧ t < d.2) = false from by simp; omega, Bool.false_or]
/-- The open times of one period. -/
theorem roundI_runs {P begin lo hi most : Int} {D : List (Int × Int)} (hD : ascI most (-1) D = true) (hlh : lo ≤ hi) (S0 : List (Int × Int))
    (hmod : ∀ t, begin ≤ t → t < begin + P → t % P = t - begin) : ∀ {S : List (Int × Int)} {out : List (Int × Int)} {last p : Int}, ascI P last S = true → last ≤ p → p ≤ last + 1 → 0 ≤ p → p ≤ P → (∀ r, p ≤ r → inI S0 r = inI S r) →
    Runs (openI P S0 D) lo hi out (max lo (min hi (begin + p))) → Runs (openI P S0 D) lo hi (roundI D lo hi begin out S) (max lo (min hi (begin + P)))
  | [], out, last, p, _, _, _, hp0, hpP, h0, hr => by
    simp only [roundI]
    refine hr.skip (by omega) (fun t g0 g1 g2 => ?_)
    unfold openI
    rw [hmod t (by omega) (by omega), h0 _ (by omega), inI_nil]; rfl
  | s :: S, out, last, p, h, hlp, hpl, hp0, hpP, h0, hr => by
    rw [ascI_cons] at h
    obtain ⟨h1, h2, h3, h4⟩ := h
    simp only [roundI]
    have before : ∀ t, begin + p ≤ t → t < begin + s.1 → openI P S0 D t = false := by
      intro t g1 g2
      unfold openI
      rw [hmod t (by omega) (by omega), h0 _ (by omega), inI_cons, inI_ahead h4 (by omega), show decide (s.1 ≤ t - begin ∧ t - begin < s.2) = false from by simp; omega]; rfl
    have next : ∀ r, s.2 ≤ r → inI S0 r = inI S r := by
      intro r hr
      rw [h0 r (by omega), inI_cons, show decide (s.1 ≤ r ∧ r < s.2) = false from by simp; omega, Bool.false_or]
    refine roundI_runs hD hlh S0 hmod (last := s.2) (p := s.2) h4 (Int.le_refl _) (by omega) (by omega) h3 next ?_
    by_cases hab : max lo (begin + s.1) < min hi (begin + s.2)
    · have e : max lo (min hi (begin + s.2)) = min hi (begin + s.2) := by omega
      rw [e]
      refine cutI_runs (by omega) hD (by omega) ?_ (fun t g1 g2 => ?_) (fun t g0 g1 g2 => ?_) (by omega)
      · refine hr.skip (by omega) (fun t g0 g1 g2 => before t (by omega) (by omega))
      · unfold openI
        rw [hmod t (by omega) (by omega), h0 _ (by omega), inI_cons, show decide (s.1 ≤ t - begin ∧ t - begin < s.2) = true from by simp; omega]; rfl
      · unfold openI
        rw [g2]; simp
    · rw [cutI_no (by omega)]
      exact hr.skip (by omega) (fun t g0 g1 g2 => before t (by omega) (by omega))

/-- One closing more among those that are merged. -/
def mergeI (out : List (Int × Int)) (d : Int × Int) : List (Int × Int) :=
  if 0 < out.length ∧ d.1 ≤ (out.getD (out.length - 1) (0, 0)).2 then out.set (out.length - 1) ((out.getD (out.length - 1) (0, 0)).1, max (out.getD (out.length - 1) (0, 0)).2 d.2) else out ++ [d]
def startI : Int → List (Int × Int) → Int
  | last, [] => last
  | _, s :: l => startI s.1 l
theorem startI_snoc : ∀ (l : List (Int × Int)) (last : Int) (e : Int × Int), startI last (l ++ [e]) = e.1
  | [], _, _ => rfl
  | s :: l, _, e => by rw [List.cons_append]; exact startI_snoc l s.1 e
theorem mergeI_ok {most : Int} {out : List (Int × Int)} {d : Int × Int} (h : ascI most (-1) out = true) (h0 : startI 0 out ≤ d.1) (h1 : 0 ≤ d.1) (h2 : d.1 < d.2) (h3 : d.2 ≤ most) :
    ascI most (-1) (mergeI out d) = true ∧ startI 0 (mergeI out d) ≤ d.1 ∧ ∀ t, inI (mergeI out d) t = inI (out ++ [d]) t := by
  unfold mergeI
  rcases List.eq_nil_or_concat out with rfl | ⟨l, e, rfl⟩
  · simp only [List.length_nil, Nat.lt_irrefl, false_and, if_false, List.nil_append]
    exact ⟨by rw [ascI_cons]; exact ⟨by omega, h2, h3, rfl⟩, Int.le_refl _, fun _ => trivial⟩
  · rw [List.concat_eq_append] at *
    rw [getD_last, set_last]
    rw [startI_snoc] at h0
    have h4 := ascI_snoc.1 h
    by_cases he : d.1 ≤ e.2
    · rw [if_pos ⟨by simp, he⟩]
      refine ⟨ascI_snoc.2 ⟨h4.1, h4.2.1, by simp only; omega, by simp only; omega⟩, by rw [startI_snoc]; exact h0, fun t => ?_⟩
      rw [inI_snoc, inI_snoc, inI_snoc, Bool.or_assoc]; congr 1
      rw [Bool.eq_iff_iff]; simp; omega
    · rw [if_neg (by intro h; exact he h.2)]
      exact ⟨ascI_snoc.2 ⟨h, by rw [endI_snoc]; omega, h2, h3⟩, by rw [startI_snoc]; exact Int.le_refl _, fun _ => rfl⟩
/-- Closings in the order of their starts, merged. -/
theorem merged_ok {most : Int} : ∀ {l out : List (Int × Int)}, ascI most (-1) out = true → (∀ d ∈ l, startI 0 out ≤ d.1 ∧ 0 ≤ d.1 ∧ d.1 < d.2 ∧ d.2 ≤ most) → l.Pairwise (fun a b => a.1 ≤ b.1) →
    ascI most (-1) (l.foldl mergeI out) = true ∧ ∀ t, inI (l.foldl mergeI out) t = inI (out ++ l) t
  | [], out, h, _, _ => ⟨h, fun t => by rw [List.append_nil]; rfl⟩
  | d :: l, out, h, hd, hs => by
    rw [List.pairwise_cons] at hs
    obtain ⟨k1, k2, k3, k4⟩ := hd d (by simp)
    obtain ⟨m1, m2, m3⟩ := mergeI_ok h k1 k2 k3 k4
    obtain ⟨r1, r2⟩ := merged_ok (l := l) m1 (fun x hx => ⟨Int.le_trans m2 (hs.1 x hx), (hd x (List.mem_cons_of_mem _ hx)).2⟩) hs.2
    refine ⟨r1, fun t => ?_⟩
    rw [List.foldl_cons, r2, inI_append, m3, inI_append, inI_append, inI_cons, inI_cons, inI_nil, Bool.or_false, Bool.or_assoc]

/-- The reference's way: 'out' behind the closings 'D', 'now' is what is still to be placed. -/
structure Placing (most : Int) (lo hi : Int) (D out : List (Int × Int)) (a b : Int) : Prop where
  asc : ascI most (-1) out = true
  gap : endI (-1) out < a
  now : a < b
  most : b ≤ most
  ends : endI (-1) out ≤ endI (-1) D
  all : ∀ t, (inI out t || decide (a ≤ t ∧ t < b)) = (inI D t || decide (lo ≤ t ∧ t < hi))
structure Placed (most : Int) (lo hi : Int) (D out : List (Int × Int)) (b : Int) : Prop where
  asc : ascI most (-1) out = true
  ends : endI (-1) out = endI (-1) D
  past : b < endI (-1) out
  all : ∀ t, inI out t = (inI D t || decide (lo ≤ t ∧ t < hi))
theorem Placing.start {most lo hi : Int} (h0 : 0 ≤ lo) (h1 : lo < hi) (h2 : hi ≤ most) : Placing most lo hi [] [] lo hi :=
  ⟨rfl, by simp only [endI]; omega, h1, h2, Int.le_refl _, fun _ => rfl⟩
section
variable {most lo hi a b : Int} {D out : List (Int × Int)} {x : Int × Int}
theorem Placing.ahead (h : Placing most lo hi D out a b) (hx : ascI most (-1) (D ++ [x]) = true) (h1 : x.2 < a) : Placing most lo hi (D ++ [x]) (out ++ [x]) a b := by
  have k := ascI_snoc.1 hx
  have e := h.ends
  refine ⟨ascI_snoc.2 ⟨h.asc, by omega, k.2.2.1, k.2.2.2⟩, by rw [endI_snoc]; exact h1, h.now, h.most, by rw [endI_snoc, endI_snoc]; exact Int.le_refl _, fun t => ?_⟩
  have := h.all t
  rw [inI_snoc, inI_snoc, Bool.or_assoc, Bool.or_comm (decide _) (decide _), ← Bool.or_assoc, this, Bool.or_assoc, Bool.or_comm (decide _) (decide _), ← Bool.or_assoc]
theorem Placing.join (h : Placing most lo hi D out a b) (hx : ascI most (-1) (D ++ [x]) = true) (h1 : ¬ x.2 < a) (h2 : ¬ b < x.1) : Placing most lo hi (D ++ [x]) out (min x.1 a) (max x.2 b) := by
  have k := ascI_snoc.1 hx
  have e := h.ends
  have n := h.now
  have m := h.most
  have g := h.gap
  refine ⟨h.asc, by omega, by omega, by omega, by rw [endI_snoc]; omega, fun t => ?_⟩
  have := h.all t
  rw [inI_snoc, Bool.or_assoc, Bool.or_comm (decide _) (decide _), ← Bool.or_assoc, ← this, Bool.or_assoc]
  congr 1
  rw [Bool.eq_iff_iff]; simp; omega
theorem Placing.place (h : Placing most lo hi D out a b) (hx : ascI most (-1) (D ++ [x]) = true) (h2 : b < x.1) : Placed most lo hi (D ++ [x]) (out ++ [(a, b)] ++ [x]) b := by
  have k := ascI_snoc.1 hx
  have n := h.now
  have m := h.most
  have g := h.gap
  refine ⟨ascI_snoc.2 ⟨ascI_snoc.2 ⟨h.asc, g, n, m⟩, by rw [endI_snoc]; exact h2, k.2.2.1, k.2.2.2⟩, by rw [endI_snoc, endI_snoc], by rw [endI_snoc]; omega, fun t => ?_⟩
  have := h.all t
  rw [inI_snoc, inI_snoc, this, inI_snoc, Bool.or_assoc, Bool.or_assoc, Bool.or_comm (decide _) (decide (x.1 ≤ t ∧ t < x.2))]
theorem Placed.next (h : Placed most lo hi D out b) (hx : ascI most (-1) (D ++ [x]) = true) : b < x.1 ∧ Placed most lo hi (D ++ [x]) (out ++ [x]) b := by
  have k := ascI_snoc.1 hx
  have e := h.ends
  have p := h.past
  refine ⟨by omega, ascI_snoc.2 ⟨h.asc, by omega, k.2.2.1, k.2.2.2⟩, by rw [endI_snoc, endI_snoc], by rw [endI_snoc]; omega, fun t => ?_⟩
  rw [inI_snoc, h.all, inI_snoc, Bool.or_assoc, Bool.or_assoc, Bool.or_comm (decide _) (decide (x.1 ≤ t ∧ t < x.2))]
theorem Placing.done (h : Placing most lo hi D out a b) : ascI most (-1) (out ++ [(a, b)]) = true ∧ ∀ t, inI (out ++ [(a, b)]) t = (inI D t || decide (lo ≤ t ∧ t < hi)) :=
  ⟨ascI_snoc.2 ⟨h.asc, h.gap, h.now, h.most⟩, fun t => by rw [inI_snoc]; exact h.all t⟩
end
end Go.Proofs.Ytdcncalcncomoaa
