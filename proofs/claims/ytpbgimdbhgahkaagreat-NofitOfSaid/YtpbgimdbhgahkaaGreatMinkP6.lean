/- Layer 15 (plain): directions in order; the lowest vertex with regard to a direction. -/
import Derived.Test.YtpbgimdbhgahkaaGreatMinkP3
import Derived.Test.YtpbgimdbhgahkaaGreatMinkS1
namespace Go.Proofs.YtpbgimdbhgahkaaGreat
set_option linter.unusedVariables false
set_option linter.unusedSimpArgs false

def G0 (p : Pt) : Int := lin 1 40001 p
def Dir (p : Pt) : Prop := near 20000 p ∧ p ≠ (0, 0)
def Dir16 (p : Pt) : Prop := near 16000 p ∧ p ≠ (0, 0)
theorem Dir16.dir {p : Pt} (h : Dir16 p) : Dir p := ⟨by have := h.1; unfold near at *; omega, h.2⟩
def elt (p q : Pt) : Bool := (upB p && !upB q) || ((upB p == upB q) && decide (0 < crs p q))
theorem dir_up {p : Pt} (h : Dir p) (hu : upB p = true) : 0 < G0 p := by
  obtain ⟨x, y⟩ := p
  have h1 := h.1
  unfold upB at hu
  unfold near at h1
  unfold G0 lin
  simp at hu h1 ⊢
  omega
theorem dir_dn {p : Pt} (h : Dir p) (hu : upB p = false) : G0 p < 0 := by
  obtain ⟨x, y⟩ := p
  have h1 := h.1
  have h2 := h.2
  unfold upB at hu
  unfold near at h1
  unfold G0 lin
  simp at hu h1 h2 ⊢
  omega
theorem crs_three (u d w : Pt) : crs u d * G0 w + crs d w * G0 u + crs w u * G0 d = 0 := by unfold crs G0 lin; grind
theorem crs_swap (u w : Pt) : crs w u = - crs u w := by unfold crs; grind
theorem crs_add (d p q : Pt) : crs d (addP p q) = crs d p + crs d q := by unfold crs addP; grind
theorem add_crs (d p q : Pt) : crs (addP p q) d = crs p d + crs q d := by unfold crs addP; grind
theorem G0_add (p q : Pt) : G0 (addP p q) = G0 p + G0 q := by unfold G0 lin addP; grind
theorem neg_of_mul {a b : Int} (ha : 0 < a) (h : a * b < 0) : b < 0 := by
  rcases Int.lt_trichotomy b 0 with q | q | q
  · exact q
  · rw [q] at h; simp at h
  · have := Int.mul_pos ha q; omega
theorem elt_iff {p q : Pt} : elt p q = true ↔ (upB p = true ∧ upB q = false) ∨ (upB p = upB q ∧ 0 < crs p q) := by
  unfold elt
  cases upB p <;> cases upB q <;> simp
theorem elt_no {p q : Pt} : elt q p = false ↔ (upB p = true ∧ upB q = false) ∨ (upB p = upB q ∧ 0 ≤ crs p q) := by
  have := crs_swap p q
  unfold elt
  cases upB p <;> cases upB q <;> simp <;> omega
/-- Of three directions, the sum of signs: a from b, b from c. -/
theorem crs_pos {u d w : Pt} (s1 : 0 ≤ crs u d * G0 w) (s2 : 0 < crs w u * G0 d) : crs d w * G0 u < 0 := by
  have := crs_three u d w; omega
theorem ord_elt : OrdOn Dir elt where
  asym x y hx hy h := by
    have := crs_swap x y
    rw [elt_iff] at h
    rw [elt_no]
    rcases h with h | h
    · exact .inl h
    · exact .inr ⟨h.1, by omega⟩
  ntrans x y z hx hy hz h1 h2 := by
    rw [elt_no] at *
    have t := crs_three x y z
    have e := crs_swap x z
    rcases h1 with ⟨a1, a2⟩ | ⟨a1, a2⟩
    · rcases h2 with ⟨b1, b2⟩ | ⟨b1, b2⟩
      · rw [a2] at b1; cases b1
      · exact .inl ⟨a1, by rw [← b1]; exact a2⟩
    · rcases h2 with ⟨b1, b2⟩ | ⟨b1, b2⟩
      · exact .inl ⟨by rw [a1]; exact b1, b2⟩
      · refine .inr ⟨a1.trans b1, ?_⟩
        cases hu : upB y
        · have gx := dir_dn hx (by rw [a1]; exact hu)
          have gy := dir_dn hy hu
          have gz := dir_dn hz (by rw [← b1]; exact hu)
          have m1 := Int.mul_nonneg a2 (show 0 ≤ -G0 z by omega)
          have m2 := Int.mul_nonneg b2 (show 0 ≤ -G0 x by omega)
          rw [Int.mul_neg] at m1 m2
          refine nonneg_of_mul (a := -G0 y) (by omega) ?_
          rw [Int.neg_mul, Int.mul_comm]
          rw [e, Int.neg_mul] at t
          omega
        · have gx := dir_up hx (by rw [a1]; exact hu)
          have gy := dir_up hy hu
          have gz := dir_up hz (by rw [← b1]; exact hu)
          have m1 := Int.mul_nonneg a2 (show 0 ≤ G0 z by omega)
          have m2 := Int.mul_nonneg b2 (show 0 ≤ G0 x by omega)
          refine nonneg_of_mul (a := G0 y) (by omega) ?_
          rw [Int.mul_comm]
          rw [e, Int.neg_mul] at t
          omega

/-- A convex ring that begins with its least vertex. -/
structure Begun (r : List Pt) : Prop where
  three : 3 ≤ r.length
  nr : ∀ p ∈ r, near 8000 p
  conv : ConvexI r
  least : ∀ j, j < r.length → ¬ lexy (at0 r j) (at0 r 0)
section
variable {r : List Pt}
theorem Begun.near2 (h : Begun r) (i : Nat) : near 8000 (rv r i) := h.nr _ (rv_mem (by have := h.three; omega))
theorem edgeV_mod (r : List Pt) (i : Nat) : edgeV r (i % r.length) = edgeV r i := by
  unfold edgeV rv
  rw [Nat.mod_mod, Nat.mod_add_mod]
theorem edgeV_len (r : List Pt) : edgeV r r.length = edgeV r 0 := by rw [← edgeV_mod r r.length, Nat.mod_self]
theorem rv_len (r : List Pt) : rv r r.length = rv r 0 := by unfold rv; rw [Nat.mod_self, Nat.zero_mod]
theorem Begun.next_ne (h : Begun r) (i : Nat) : rv r i ≠ rv r (i + 1) := by
  have h3 := h.three
  have := (h.conv.self h3).next_ne (i := i % r.length) (Nat.mod_lt _ (by omega))
  have e : rv r (i % r.length + 1) = rv r (i + 1) := by unfold rv; rw [Nat.mod_add_mod]
  rw [e] at this
  exact this
theorem Begun.dir (h : Begun r) (i : Nat) : Dir (edgeV r i) := by
  have a := h.near2 i
  have b := h.near2 (i + 1)
  have c := h.next_ne i
  refine ⟨?_, fun e => c ?_⟩
  · unfold edgeV subP near at *; omega
  · unfold edgeV subP at e
    simp at e
    exact Prod.ext (by omega) (by omega)
theorem Begun.first (h : Begun r) : upB (edgeV r 0) = true := by
  have h3 := h.three
  have a := h.least 1 (by omega)
  have b := h.next_ne 0
  unfold edgeV
  rw [upB_lexy]
  rw [rv_lt (by omega), rv_lt (by omega)] at *
  rcases lexy_tri (at0 r 0) (at0 r 1) with q | q | q
  · exact q
  · exact absurd q b
  · exact absurd q a
theorem Begun.last (h : Begun r) : upB (edgeV r (r.length - 1)) = false := by
  have h3 := h.three
  have a := h.least (r.length - 1) (by omega)
  cases hu : upB (edgeV r (r.length - 1))
  · rfl
  · unfold edgeV at hu
    rw [upB_lexy, show r.length - 1 + 1 = r.length by omega, rv_len, rv_lt (by omega), rv_lt (by omega)] at hu
    exact absurd hu a
theorem Begun.left (h : Begun r) (i : Nat) : 0 < crs (edgeV r i) (edgeV r (i + 1)) := by
  have h3 := h.three
  have := h.conv.left_turn h3 (i := i % r.length) (Nat.mod_lt _ (by omega))
  have l := leftAt_det.2 this
  unfold leftAt at l
  rw [decide_eq_true_eq, edgeV_mod] at l
  have e : edgeV r (i % r.length + 1) = edgeV r (i + 1) := by
    rw [← edgeV_mod r (i % r.length + 1), Nat.mod_add_mod, edgeV_mod]
  rwa [e] at l
theorem Begun.lt1 (h : Begun r) {i : Nat} (hi : i + 1 < r.length) : elt (edgeV r i) (edgeV r (i + 1)) = true := by
  have h3 := h.three
  obtain ⟨k, hk, hp, hu⟩ := one_of_filter (show ((List.range r.length).filter (turnAt r)).length = 1 from convex_turns h3 h.nr h.conv)
  have t : turnAt r (r.length - 1) = true := by
    unfold turnAt
    rw [h.last, show r.length - 1 + 1 = r.length by omega, edgeV_len, h.first]; rfl
  have e1 := hu _ (by omega) t
  have l := h.left i
  rw [elt_iff]
  cases a : upB (edgeV r i) <;> cases b : upB (edgeV r (i + 1))
  · exact .inr ⟨rfl, l⟩
  · have : turnAt r i = true := by unfold turnAt; rw [a, b]; rfl
    have := hu i (by omega) this
    omega
  · exact .inl ⟨rfl, rfl⟩
  · exact .inr ⟨rfl, l⟩
theorem Begun.lt (h : Begun r) : ∀ {i j : Nat}, i < j → j < r.length → elt (edgeV r i) (edgeV r j) = true
  | i, 0, h1, _ => absurd h1 (by omega)
  | i, j + 1, h1, h2 => by
    have l := h.lt1 h2
    by_cases e : i = j
    · rw [e]; exact l
    · exact ord_elt.trans (h.dir _) (h.dir _) (h.dir _) (h.lt (i := i) (j := j) (by omega) (by omega)) (ord_elt.asym _ _ (h.dir _) (h.dir _) l)
theorem crs_lin (d p : Pt) : crs d p = lin (-d.2) d.1 p := by unfold crs lin; grind
theorem crs_sub (d p q : Pt) : crs d (subP p q) = crs d p - crs d q := by unfold crs subP; grind
/-- A vertex at which the edges pass a direction is the lowest. -/
theorem Begun.corner (h : Begun r) {d : Pt} {c : Nat} (h1 : 0 ≤ crs (edgeV r c) d) (h2 : 0 ≤ crs d (edgeV r (c + 1))) : ∀ q ∈ r, 0 ≤ crs d (subP q (rv r (c + 1))) := fun q hq => by
  have h3 := h.three
  have L := h.left c
  have lf := fun (i : Nat) => h.conv.left (i % r.length) (Nat.mod_lt _ (by omega)) q hq
  have e : ∀ i, rv r (i % r.length + 1) = rv r (i + 1) := fun i => by unfold rv; rw [Nat.mod_add_mod]
  have A := lf c
  have B := lf (c + 1)
  rw [e] at A B
  have D : 0 < det (rv r c) (rv r (c + 1)) (rv r (c + 2)) := by rw [det_crs]; exact L
  have := cone (-d.2) d.1 (a := rv r c) (v := rv r (c + 1)) (b := rv r (c + 2)) (q := q) D A B (by
    rw [← crs_lin, ← crs_lin]
    have : crs d (edgeV r c) = crs d (rv r (c + 1)) - crs d (rv r c) := crs_sub _ _ _
    have s := crs_swap d (edgeV r c)
    omega) (by
    rw [← crs_lin, ← crs_lin]
    have : crs d (edgeV r (c + 1)) = crs d (rv r (c + 2)) - crs d (rv r (c + 1)) := crs_sub _ _ _
    omega)
  rw [← crs_lin, ← crs_lin] at this
  rw [crs_sub]
  omega
/-- Between an edge and the next there is a direction: it passes both on the same side. -/
theorem between {u d w : Pt} (hu : Dir u) (hd : Dir d) (hw : Dir w) (L : 0 < crs u w)
    (h : (upB u = false ∧ upB w = true ∧ elt w d = false) ∨ (elt u d = true ∧ elt w d = false) ∨ (upB u = false ∧ upB w = true ∧ elt u d = true)) : 0 ≤ crs u d ∧ 0 ≤ crs d w := by
  have t := crs_three u d w
  have e := crs_swap u w
  rw [e, Int.neg_mul] at t
  rw [elt_iff, elt_no] at h
  rcases h with ⟨a, b, h | h⟩ | ⟨h | h, k | k⟩ | ⟨a, b, h | h⟩
  · rw [b] at h; cases h.2
  · have gu := dir_dn hu a
    have gw := dir_up hw b
    have gd := dir_up hd (by rw [h.1]; exact b)
    have m1 := Int.mul_nonneg h.2 (show 0 ≤ -G0 u by omega)
    have m2 := Int.mul_pos L gd
    rw [Int.mul_neg] at m1
    have : 0 < crs u d := pos_of_mul gw (by rw [Int.mul_comm]; omega)
    exact ⟨by omega, h.2⟩
  · rw [h.2] at k; cases k.1
  · have gu := dir_up hu h.1
    have gd := dir_dn hd h.2
    have gw := dir_dn hw (by rw [← k.1]; exact h.2)
    have m1 := Int.mul_nonneg k.2 (show 0 ≤ G0 u by omega)
    have m2 := Int.mul_pos L (show 0 < -G0 d by omega)
    rw [Int.mul_neg] at m2
    have : 0 < crs u d := pos_of_mul (a := -G0 w) (by omega) (by rw [Int.neg_mul, Int.mul_comm]; omega)
    exact ⟨by omega, k.2⟩
  · have gd := dir_up hd k.1
    have gu := dir_up hu (by rw [h.1]; exact k.1)
    have gw := dir_dn hw k.2
    have m1 := Int.mul_pos h.2 (show 0 < -G0 w by omega)
    have m2 := Int.mul_pos L gd
    rw [Int.mul_neg] at m1
    have : 0 < crs d w := pos_of_mul gu (by rw [Int.mul_comm]; omega)
    exact ⟨by omega, by omega⟩
  · exact ⟨by omega, k.2⟩
  · rw [a] at h; cases h.1
  · have gu := dir_dn hu a
    have gw := dir_up hw b
    have gd := dir_dn hd (by rw [← h.1]; exact a)
    have m1 := Int.mul_pos h.2 gw
    have m2 := Int.mul_pos L (show 0 < -G0 d by omega)
    rw [Int.mul_neg] at m2
    have : 0 < crs d w := pos_of_mul (a := -G0 u) (by omega) (by rw [Int.neg_mul, Int.mul_comm]; omega)
    exact ⟨by omega, by omega⟩

def sumL (l : List Pt) : Pt := l.foldr addP (0, 0)
theorem sumL_app (l m : List Pt) : sumL (l ++ m) = addP (sumL l) (sumL m) := by
  induction l with
  | nil => unfold sumL addP; simp
  | cons a l ih =>
    have e1 : sumL (a :: l ++ m) = addP a (sumL (l ++ m)) := rfl
    have e2 : sumL (a :: l) = addP a (sumL l) := rfl
    rw [e1, e2, ih]; unfold addP; simp; omega
theorem sumL_one (a : Pt) : sumL [a] = a := by unfold sumL addP; simp
theorem sumL_perm {l m : List Pt} (h : l.Perm m) : sumL l = sumL m := by
  induction h with
  | nil => rfl
  | cons a _ ih => show addP a _ = addP a _; unfold sumL at ih; rw [ih]
  | swap a b l => show addP b (addP a _) = addP a (addP b _); unfold addP; simp; omega
  | trans _ _ h1 h2 => exact h1.trans h2
def dirsN (r : List Pt) (k : Nat) : List Pt := (List.range k).map (edgeV r)
theorem dirsN_len (r : List Pt) (k : Nat) : (dirsN r k).length = k := by unfold dirsN; simp
theorem dirsN_at {r : List Pt} {k i : Nat} (h : i < k) : at0 (dirsN r k) i = edgeV r i := by
  rw [at0_eq (by rw [dirsN_len]; exact h)]; simp [dirsN]
theorem dirsN_succ (r : List Pt) (k : Nat) : dirsN r (k + 1) = dirsN r k ++ [edgeV r k] := by unfold dirsN; rw [List.range_succ, List.map_append]; rfl
theorem dirsN_take {r : List Pt} {k n : Nat} (h : k ≤ n) : (dirsN r n).take k = dirsN r k := by
  unfold dirsN; rw [← List.map_take, List.take_range, Nat.min_eq_left h]
theorem dirsN_sum (r : List Pt) : ∀ k, addP (rv r 0) (sumL (dirsN r k)) = rv r k
  | 0 => by unfold dirsN sumL addP; simp
  | k + 1 => by
    have ih := dirsN_sum r k
    rw [dirsN_succ, sumL_app, sumL_one]
    unfold edgeV subP addP at *
    have i1 := congrArg Prod.fst ih
    have i2 := congrArg Prod.snd ih
    simp only at i1 i2
    exact Prod.ext (by simp only; omega) (by simp only; omega)
theorem filter_split {T : List Pt} {p : Pt → Bool} {k : Nat} (hk : k ≤ T.length) (h1 : ∀ x, x < k → p (at0 T x) = true) (h2 : ∀ x, k ≤ x → x < T.length → p (at0 T x) = false) : T.filter p = T.take k := by
  have a : (T.take k).filter p = T.take k := List.filter_eq_self.2 fun a ha => by
    obtain ⟨i, hi, rfl⟩ := mem_at ha
    rw [List.length_take] at hi
    rw [at0_take (by omega)]; exact h1 i (by omega)
  have b : (T.drop k).filter p = [] := List.filter_eq_nil_iff.2 fun a ha => by
    obtain ⟨i, hi, rfl⟩ := mem_at ha
    rw [List.length_drop] at hi
    rw [at0_drop]
    have := h2 (k + i) (by omega) (by omega)
    rw [this]; simp
  calc T.filter p = (T.take k ++ T.drop k).filter p := by rw [List.take_append_drop]
    _ = T.take k := by rw [List.filter_append, a, b, List.append_nil]
theorem first_false (p : Nat → Bool) (n : Nat) (hm : ∀ i j, i ≤ j → j < n → p j = true → p i = true) : ∃ i, i ≤ n ∧ (∀ x, x < i → p x = true) ∧ ∀ x, i ≤ x → x < n → p x = false := by
  induction n with
  | zero => exact ⟨0, Nat.le_refl _, fun x hx => absurd hx (by omega), fun x _ hx => absurd hx (by omega)⟩
  | succ n ih =>
    cases hp : p n
    · obtain ⟨i, h1, h2, h3⟩ := ih fun a b q w => hm a b q (by omega)
      refine ⟨i, by omega, h2, fun x q w => ?_⟩
      rcases Nat.lt_or_ge x n with c | c
      · exact h3 x q c
      · obtain rfl : x = n := by omega
        exact hp
    · exact ⟨n + 1, Nat.le_refl _, fun x q => hm x n (by omega) (by omega) hp, fun x q w => absurd q (by omega)⟩
/-- The edges ahead of a direction lead to the lowest vertex. -/
theorem Begun.low (h : Begun r) {d : Pt} (hd : Dir d) : ∃ v ∈ r, (∀ q ∈ r, 0 ≤ crs d (subP q v)) ∧ addP (at0 r 0) (sumL ((dirsN r r.length).filter (fun e => elt e d))) = v := by
  have h3 := h.three
  obtain ⟨i, h1, h2, h4⟩ := first_false (fun x => elt (edgeV r x) d) r.length (fun a b q w e => by
    rcases Nat.lt_or_ge a b with c | c
    · have := h.lt c w
      exact ord_elt.trans (h.dir _) (h.dir _) hd this (ord_elt.asym _ _ (h.dir _) hd e)
    · obtain rfl : a = b := by omega
      exact e)
  refine ⟨rv r i, rv_mem (by omega), ?_, ?_⟩
  · have key : ∀ c, rv r (c + 1) = rv r i → (0 ≤ crs (edgeV r c) d ∧ 0 ≤ crs d (edgeV r (c + 1))) → ∀ q ∈ r, 0 ≤ crs d (subP q (rv r i)) := fun c e k => by
      rw [← e]; exact h.corner k.1 k.2
    have en : r.length - 1 + 1 = r.length := by omega
    have ll := h.left (r.length - 1)
    rw [en, edgeV_len] at ll
    by_cases i0 : i = 0
    · refine key (r.length - 1) (by rw [i0, en, rv_len]) ?_
      rw [en, edgeV_len]
      exact between (h.dir _) hd (h.dir _) ll (.inl ⟨h.last, h.first, h4 0 (by omega) (by omega)⟩)
    · by_cases il : i = r.length
      · refine key (r.length - 1) (by rw [il, en]) ?_
        rw [en, edgeV_len]
        exact between (h.dir _) hd (h.dir _) ll (.inr (.inr ⟨h.last, h.first, h2 _ (by omega)⟩))
      · refine key (i - 1) (by rw [show i - 1 + 1 = i by omega]) ?_
        have l1 := h.left (i - 1)
        have f1 := h2 (i - 1) (by omega)
        have f2 := h4 i (Nat.le_refl _) (by omega)
        rw [show i - 1 + 1 = i by omega] at *
        exact between (h.dir _) hd (h.dir _) l1 (.inr (.inl ⟨f1, f2⟩))
  · rw [filter_split (k := i) (by rw [dirsN_len]; exact h1) (fun x hx => by rw [dirsN_at (by omega)]; exact h2 x hx) (fun x hx hl => by
      rw [dirsN_len] at hl
      rw [dirsN_at hl]; exact h4 x hx hl), dirsN_take h1]
    have := dirsN_sum r i
    rw [rv_lt (i := 0) (by omega)] at this
    exact this
end
end Go.Proofs.YtpbgimdbhgahkaaGreat
/- Layer 15 (plain): the partial sums of the edges of two begun convex rings, put in order, are the hull of all sums. -/
namespace Go.Proofs.YtpbgimdbhgahkaaGreat
set_option linter.unusedVariables false
set_option linter.unusedSimpArgs false

/-- The sums of two lists. -/
def sums2 (r s : List Pt) : List Pt := r.flatMap (fun p => s.map (fun q => addP p q))
theorem mem_sums2 {r s : List Pt} {v : Pt} : v ∈ sums2 r s ↔ ∃ p ∈ r, ∃ q ∈ s, v = addP p q := by
  unfold sums2
  simp only [List.mem_flatMap, List.mem_map]
  constructor
  · rintro ⟨p, hp, q, hq, rfl⟩; exact ⟨p, hp, q, hq, rfl⟩
  · rintro ⟨p, hp, q, hq, rfl⟩; exact ⟨p, hp, q, hq, rfl⟩
def newE (T : List Pt) (k : Nat) : Bool := k == 0 || crs (at0 T (k - 1)) (at0 T k) != 0
def pre (P : Pt) (T : List Pt) (k : Nat) : Pt := addP P (sumL (T.take k))
/-- Edges of two begun rings, put in order. -/
structure Merged (r s T : List Pt) : Prop where
  br : Begun r
  bs : Begun s
  perm : T.Perm (dirsN r r.length ++ dirsN s s.length)
  sd : Sd elt T 0 T.length
section
variable {r s T : List Pt}
theorem Merged.len (h : Merged r s T) : T.length = r.length + s.length := by
  rw [h.perm.length_eq, List.length_append, dirsN_len, dirsN_len]
theorem dirsN_mem {r : List Pt} {n : Nat} {x : Pt} : x ∈ dirsN r n ↔ ∃ i, i < n ∧ edgeV r i = x := by
  unfold dirsN; simp
theorem Merged.mem (h : Merged r s T) (x : Pt) : x ∈ T ↔ (∃ i, i < r.length ∧ edgeV r i = x) ∨ ∃ i, i < s.length ∧ edgeV s i = x := by
  rw [h.perm.mem_iff, List.mem_append, dirsN_mem, dirsN_mem]
theorem Merged.dirs (h : Merged r s T) : ∀ x ∈ T, Dir x := fun x hx => by
  rcases (h.mem x).1 hx with ⟨i, hi, rfl⟩ | ⟨i, hi, rfl⟩
  · exact h.br.dir i
  · exact h.bs.dir i
theorem Merged.dir (h : Merged r s T) {k : Nat} (hk : k < T.length) : Dir (at0 T k) := h.dirs _ (at0_mem hk)
theorem Merged.le (h : Merged r s T) {i j : Nat} (hij : i ≤ j) (hj : j < T.length) : elt (at0 T j) (at0 T i) = false := h.sd.le ord_elt h.dirs (Nat.le_refl _) (Nat.zero_le _) hij hj
/-- Where a lower direction follows an upper one, the turn is to the left. -/
theorem Merged.change (h : Merged r s T) {k : Nat} (hk : k + 1 < T.length) (hu : upB (at0 T k) = true) (hd : upB (at0 T (k + 1)) = false) : 0 < crs (at0 T k) (at0 T (k + 1)) := by
  have h3 := h.br.three
  obtain ⟨i, hi, h1, h2⟩ := first_false (fun x => upB (edgeV r x)) r.length (fun a b q w e => by
    rcases Nat.lt_or_ge a b with c | c
    · have := h.br.lt c w
      rw [elt_iff] at this
      rcases this with ⟨a1, _⟩ | ⟨a1, _⟩
      · exact a1
      · rw [a1]; exact e
    · obtain rfl : a = b := by omega
      exact e)
  have i0 : i ≠ 0 := fun e => by have := h2 0 (by omega) (by omega); simp only [h.br.first] at this; cases this
  have il : i ≠ r.length := fun e => by have := h1 (r.length - 1) (by omega); simp only [h.br.last] at this; cases this
  have up := h1 (i - 1) (by omega)
  have dn := h2 i (Nat.le_refl _) (by omega)
  have L := h.br.left (i - 1)
  rw [show i - 1 + 1 = i by omega] at L
  obtain ⟨x, hx, ex⟩ := mem_at ((h.mem (edgeV r (i - 1))).2 (.inl ⟨i - 1, by omega, rfl⟩))
  obtain ⟨y, hy, ey⟩ := mem_at ((h.mem (edgeV r i)).2 (.inl ⟨i, by omega, rfl⟩))
  have xk : x ≤ k := by
    rcases Nat.lt_or_ge k x with c | c
    · have := h.le (i := k + 1) (j := x) (by omega) hx
      rw [elt_no, ex, up, hd] at this
      rcases this with ⟨a, _⟩ | ⟨a, _⟩ <;> cases a
    · exact c
  have yk : k + 1 ≤ y := by
    rcases Nat.lt_or_ge k y with c | c
    · exact c
    · have := h.le (i := y) (j := k) c (by omega)
      rw [elt_no, ey, dn, hu] at this
      rcases this with ⟨a, _⟩ | ⟨a, _⟩ <;> cases a
  have A := h.le xk (by omega)
  have B := h.le yk hy
  rw [elt_no, ex, up, hu] at A
  rw [elt_no, ey, dn, hd] at B
  have A2 : 0 ≤ crs (edgeV r (i - 1)) (at0 T k) := by rcases A with ⟨_, a⟩ | ⟨_, a⟩; cases a; exact a
  have B2 : 0 ≤ crs (at0 T (k + 1)) (edgeV r i) := by rcases B with ⟨a, _⟩ | ⟨_, a⟩; cases a; exact a
  have du := h.br.dir (i - 1)
  have dw := h.br.dir i
  have da := h.dir (k := k) (by omega)
  have db := h.dir hk
  generalize edgeV r (i - 1) = u at *
  generalize edgeV r i = w at *
  generalize at0 T k = a at *
  generalize at0 T (k + 1) = b at *
  have gu := dir_up du up
  have ga := dir_up da hu
  have gw := dir_dn dw dn
  have gb := dir_dn db hd
  have t1 := crs_three u a w
  have t2 := crs_three a b w
  have e1 := crs_swap u w
  have e2 := crs_swap a w
  rw [e1, Int.neg_mul] at t1
  have m1 := Int.mul_nonneg A2 (show 0 ≤ -G0 w by omega)
  have m2 := Int.mul_pos L ga
  rw [Int.mul_neg] at m1
  have aw : 0 < crs a w := pos_of_mul gu (by rw [Int.mul_comm]; omega)
  rw [e2, Int.neg_mul] at t2
  have m3 := Int.mul_nonneg B2 (show 0 ≤ G0 a by omega)
  have m4 := Int.mul_pos aw (show 0 < -G0 b by omega)
  rw [Int.mul_neg] at m4
  exact pos_of_mul (a := -G0 w) (by omega) (by rw [Int.neg_mul, Int.mul_comm]; omega)
theorem Merged.new_iff (h : Merged r s T) {k : Nat} (hk : k + 1 < T.length) : newE T (k + 1) = true ↔ elt (at0 T k) (at0 T (k + 1)) = true := by
  have e := h.le (i := k) (j := k + 1) (by omega) hk
  have c := h.change hk
  unfold newE
  rw [elt_no] at e
  rw [elt_iff]
  simp only [Nat.add_sub_cancel, Bool.or_eq_true, beq_iff_eq, bne_iff_ne]
  rcases e with e | e
  · have := c e.1 e.2
    exact ⟨fun _ => .inl e, fun _ => .inr (by omega)⟩
  · constructor
    · rintro (q | q)
      · omega
      · exact .inr ⟨e.1, by omega⟩
    · rintro (q | q)
      · rw [q.1, q.2] at e; cases e.1
      · exact .inr (by omega)
/-- Ahead of a place there is no new direction: all are like it. -/
theorem Merged.like (h : Merged r s T) {k : Nat} : ∀ {x : Nat}, k ≤ x → x < T.length → (∀ y, k < y → y ≤ x → newE T y = false) → elt (at0 T k) (at0 T x) = false
  | 0, h1, h2, _ => by
    obtain rfl : k = 0 := by omega
    exact ord_elt.irrefl (h.dir h2)
  | x + 1, h1, h2, h3 => by
    by_cases e : k = x + 1
    · rw [e]; exact ord_elt.irrefl (h.dir h2)
    · have ih := h.like (k := k) (x := x) (by omega) (by omega) (fun y a b => h3 y a (by omega))
      have n := h3 (x + 1) (by omega) (Nat.le_refl _)
      have : elt (at0 T x) (at0 T (x + 1)) = false := by
        cases q : elt (at0 T x) (at0 T (x + 1))
        · rfl
        · rw [(h.new_iff h2).2 q] at n; cases n
      exact ord_elt.ntrans _ _ _ (h.dir h2) (h.dir (by omega)) (h.dir (by omega)) this ih
theorem Merged.ahead (h : Merged r s T) {k x : Nat} (hn : newE T k = true) (h1 : k ≤ x) (h2 : x < T.length) (h3 : ∀ y, k < y → y ≤ x → newE T y = false) : T.filter (fun e => elt e (at0 T x)) = T.take k := by
  refine filter_split (by omega) (fun i hi => ?_) (fun i hi hl => ?_)
  · obtain ⟨j, rfl⟩ : ∃ j, k = j + 1 := ⟨k - 1, by omega⟩
    have a := (h.new_iff (by omega)).1 hn
    have b := h.le (i := i) (j := j) (by omega) (by omega)
    have c := h.le (i := j + 1) (j := x) h1 h2
    have d := ord_elt.trans' (h.dir (by omega)) (h.dir (by omega)) (h.dir (by omega)) b a
    exact ord_elt.trans (h.dir (by omega)) (h.dir (by omega)) (h.dir h2) d c
  · have a := h.like h1 h2 h3
    have b := h.le (i := k) (j := i) hi hl
    exact ord_elt.ntrans _ _ _ (h.dir h2) (h.dir (by omega)) (h.dir hl) a b
/-- A vertex of the sum is a sum of two vertices, the lowest with regard to the directions that follow. -/
theorem Merged.vertex (h : Merged r s T) {k x : Nat} (hn : newE T k = true) (h1 : k ≤ x) (h2 : x < T.length) (h3 : ∀ y, k < y → y ≤ x → newE T y = false) :
    pre (addP (at0 r 0) (at0 s 0)) T k ∈ sums2 r s ∧ ∀ q ∈ sums2 r s, 0 ≤ crs (at0 T x) (subP q (pre (addP (at0 r 0) (at0 s 0)) T k)) := by
  have hd := h.dir h2
  obtain ⟨v, hv, v1, v2⟩ := h.br.low hd
  obtain ⟨w, hw, w1, w2⟩ := h.bs.low hd
  have e := sumL_perm (h.perm.filter (fun e => elt e (at0 T x)))
  rw [h.ahead hn h1 h2 h3, List.filter_append, sumL_app] at e
  have ep : pre (addP (at0 r 0) (at0 s 0)) T k = addP v w := by
    unfold pre
    rw [e, ← v2, ← w2]
    unfold addP
    exact Prod.ext (by simp only; omega) (by simp only; omega)
  rw [ep]
  refine ⟨mem_sums2.2 ⟨v, hv, w, hw, rfl⟩, fun q hq => ?_⟩
  obtain ⟨a, ha, b, hb, rfl⟩ := mem_sums2.1 hq
  have p1 := v1 a ha
  have p2 := w1 b hb
  rw [crs_sub] at *
  rw [crs_add, crs_add]
  omega
theorem dirsN_zero {r : List Pt} : sumL (dirsN r r.length) = (0, 0) := by
  have := dirsN_sum r r.length
  rw [rv_len] at this
  unfold addP at this
  have a := congrArg Prod.fst this
  have b := congrArg Prod.snd this
  simp only at a b
  exact Prod.ext (by simp only; omega) (by simp only; omega)
theorem Merged.closed (h : Merged r s T) (P : Pt) : pre P T T.length = P := by
  unfold pre
  rw [List.take_length, sumL_perm h.perm, sumL_app, dirsN_zero, dirsN_zero]
  unfold addP
  exact Prod.ext (by simp) (by simp)

/-- The places of new directions; behind them, the end. -/
def news (T : List Pt) : List Nat := (List.range T.length).filter (newE T)
def kk (T : List Pt) (i : Nat) : Nat := (news T).getD i T.length
theorem kk_eq {T : List Pt} {i : Nat} (h : i < (news T).length) : kk T i = (news T)[i] := by unfold kk; rw [List.getD_eq_getElem?_getD, List.getElem?_eq_getElem h]; rfl
theorem kk_end {T : List Pt} : kk T (news T).length = T.length := by unfold kk; rw [List.getD_eq_getElem?_getD, List.getElem?_eq_none (Nat.le_refl _)]; rfl
theorem kk_in {T : List Pt} {i : Nat} (h : i < (news T).length) : kk T i < T.length ∧ newE T (kk T i) = true := by
  have := List.getElem_mem h
  rw [← kk_eq h] at this
  unfold news at this
  rw [List.mem_filter, List.mem_range] at this
  exact this
theorem news_sorted (T : List Pt) : (news T).Pairwise (· < ·) := List.Pairwise.filter _ List.pairwise_lt_range
theorem kk_lt {T : List Pt} {i j : Nat} (h : i < j) (hj : j ≤ (news T).length) : kk T i < kk T j := by
  by_cases e : j = (news T).length
  · rw [e, kk_end]; exact (kk_in (by omega)).1
  · rw [kk_eq (by omega), kk_eq (by omega)]
    exact List.pairwise_iff_getElem.1 (news_sorted T) i j (by omega) (by omega) h
theorem kk_le {T : List Pt} {i j : Nat} (h : i ≤ j) (hj : j ≤ (news T).length) : kk T i ≤ kk T j := by
  rcases Nat.lt_or_eq_of_le h with q | rfl
  · exact Nat.le_of_lt (kk_lt q hj)
  · exact Nat.le_refl _
theorem kk_find {T : List Pt} {y : Nat} (hy : y < T.length) (hn : newE T y = true) : ∃ i, i < (news T).length ∧ kk T i = y := by
  have : y ∈ news T := List.mem_filter.2 ⟨List.mem_range.2 hy, hn⟩
  obtain ⟨i, hi, e⟩ := List.getElem_of_mem this
  exact ⟨i, hi, by rw [kk_eq hi]; exact e⟩
theorem kk_gap {T : List Pt} {i y : Nat} (hi : i < (news T).length) (h1 : kk T i < y) (h2 : y < kk T (i + 1)) : newE T y = false := by
  cases q : newE T y
  · rfl
  · have hl := kk_le (T := T) (i := i + 1) (j := (news T).length) hi (Nat.le_refl _)
    rw [kk_end] at hl
    obtain ⟨j, hj, e⟩ := kk_find (by omega) q
    rcases Nat.lt_trichotomy j i with c | c | c
    · have := kk_lt (T := T) c (by omega); omega
    · rw [c] at e; omega
    · have := kk_le (T := T) (i := i + 1) (j := j) c (by omega); omega
theorem new0 (T : List Pt) : newE T 0 = true := by unfold newE; simp
theorem kk_zero {T : List Pt} (h : 0 < T.length) : 0 < (news T).length ∧ kk T 0 = 0 := by
  obtain ⟨i, hi, e⟩ := kk_find h (new0 T)
  refine ⟨by omega, ?_⟩
  by_cases c : i = 0
  · rw [c] at e; exact e
  · have := kk_lt (T := T) (i := 0) (j := i) (by omega) (by omega); omega

/-- The edges of one block. -/
def block (T : List Pt) (i : Nat) : List Pt := (T.take (kk T (i + 1))).drop (kk T i)
theorem pre_next {T : List Pt} {P : Pt} {i : Nat} (hi : i < (news T).length) : pre P T (kk T (i + 1)) = addP (pre P T (kk T i)) (sumL (block T i)) := by
  have h1 := kk_lt (T := T) (i := i) (j := i + 1) (by omega) hi
  have e : T.take (kk T (i + 1)) = T.take (kk T i) ++ block T i := by
    unfold block
    have : T.take (kk T i) = (T.take (kk T (i + 1))).take (kk T i) := by rw [List.take_take, Nat.min_eq_left (by omega)]
    rw [this, List.take_append_drop]
  unfold pre
  rw [e, sumL_app]
  unfold addP
  exact Prod.ext (by simp only; omega) (by simp only; omega)
theorem block_mem {T : List Pt} {i : Nat} (hi : i < (news T).length) {d : Pt} (hd : d ∈ block T i) : ∃ x, kk T i ≤ x ∧ x < kk T (i + 1) ∧ x < T.length ∧ at0 T x = d := by
  have hl := kk_le (T := T) (i := i + 1) (j := (news T).length) hi (Nat.le_refl _)
  rw [kk_end] at hl
  obtain ⟨j, hj, rfl⟩ := mem_at hd
  unfold block at hj ⊢
  rw [List.length_drop, List.length_take] at hj
  refine ⟨kk T i + j, by omega, by omega, by omega, ?_⟩
  rw [at0_drop, at0_take (by omega)]
theorem block_ne {T : List Pt} {i : Nat} (hi : i < (news T).length) : block T i ≠ [] := fun e => by
  have h1 := kk_lt (T := T) (i := i) (j := i + 1) (by omega) hi
  have hl := kk_le (T := T) (i := i + 1) (j := (news T).length) hi (Nat.le_refl _)
  rw [kk_end] at hl
  have := congrArg List.length e
  unfold block at this
  rw [List.length_drop, List.length_take] at this
  simp at this
  omega
theorem crs_sum_nonneg {v : Pt} : ∀ {l : List Pt}, (∀ d ∈ l, 0 ≤ crs d v) → 0 ≤ crs (sumL l) v
  | [], _ => by unfold sumL crs; simp
  | a :: l, h => by
    show 0 ≤ crs (addP a (sumL l)) v
    rw [add_crs]
    have := crs_sum_nonneg (l := l) (fun d hd => h d (List.mem_cons_of_mem _ hd))
    have := h a (List.mem_cons_self ..)
    omega
theorem crs_sum_pos {v : Pt} : ∀ {l : List Pt}, l ≠ [] → (∀ d ∈ l, 0 < crs d v) → 0 < crs (sumL l) v
  | [], h, _ => absurd rfl h
  | a :: l, _, h => by
    show 0 < crs (addP a (sumL l)) v
    rw [add_crs]
    have := crs_sum_nonneg (l := l) (v := v) (fun d hd => Int.le_of_lt (h d (List.mem_cons_of_mem _ hd)))
    have := h a (List.mem_cons_self ..)
    omega
theorem crs_pos_sum {l m : List Pt} (hl : l ≠ []) (hm : m ≠ []) (h : ∀ d ∈ l, ∀ e ∈ m, 0 < crs d e) : 0 < crs (sumL l) (sumL m) := by
  refine crs_sum_pos hl fun d hd => ?_
  have := crs_sum_pos (v := (-d.1, -d.2)) hm (fun e he => by
    have := h d hd e he
    unfold crs at *
    simp only
    grind)
  unfold crs at *
  simp only at this
  grind
theorem G0_sum_pos : ∀ {l : List Pt}, (∀ d ∈ l, 0 < G0 d) → (l ≠ [] → 0 < G0 (sumL l)) ∧ 0 ≤ G0 (sumL l)
  | [], _ => ⟨fun h => absurd rfl h, by unfold sumL G0 lin; simp⟩
  | a :: l, h => by
    have ih := (G0_sum_pos (l := l) (fun d hd => h d (List.mem_cons_of_mem _ hd))).2
    have e : G0 (sumL (a :: l)) = G0 a + G0 (sumL l) := G0_add _ _
    have := h a (List.mem_cons_self ..)
    exact ⟨fun _ => by omega, by omega⟩
theorem G0_sum_neg : ∀ {l : List Pt}, (∀ d ∈ l, G0 d < 0) → (l ≠ [] → G0 (sumL l) < 0) ∧ G0 (sumL l) ≤ 0
  | [], _ => ⟨fun h => absurd rfl h, by unfold sumL G0 lin; simp⟩
  | a :: l, h => by
    have ih := (G0_sum_neg (l := l) (fun d hd => h d (List.mem_cons_of_mem _ hd))).2
    have e : G0 (sumL (a :: l)) = G0 a + G0 (sumL l) := G0_add _ _
    have := h a (List.mem_cons_self ..)
    exact ⟨fun _ => by omega, by omega⟩

def outV (P : Pt) (T : List Pt) : List Pt := (news T).map (pre P T)
theorem outV_len (P : Pt) (T : List Pt) : (outV P T).length = (news T).length := by unfold outV; simp
theorem outV_at {P : Pt} {T : List Pt} {i : Nat} (h : i < (news T).length) : at0 (outV P T) i = pre P T (kk T i) := by
  rw [at0_eq (by rw [outV_len]; exact h), kk_eq h]; simp [outV]
theorem Merged.rv_out (h : Merged r s T) (P : Pt) {i : Nat} (hi : i ≤ (news T).length) (h0 : 0 < T.length) : rv (outV P T) i = pre P T (kk T i) := by
  have z := kk_zero h0
  unfold rv
  rw [outV_len]
  by_cases e : i = (news T).length
  · rw [e, Nat.mod_self, kk_end, h.closed, outV_at z.1, z.2]
    unfold pre sumL addP; simp
  · rw [Nat.mod_eq_of_lt (by omega), outV_at (by omega)]
theorem det_next (a b q : Pt) : det a b q = crs (subP b a) (subP q a) := by unfold det crs subP; grind
theorem sub_add (a b : Pt) : subP (addP a b) a = b := by
  unfold subP addP
  exact Prod.ext (by simp only; omega) (by simp only; omega)
/-- No sum lies to the right of an edge. -/
theorem Merged.edge_left (h : Merged r s T) {i : Nat} (hi : i < (news T).length) : ∀ q ∈ sums2 r s, 0 ≤ det (pre (addP (at0 r 0) (at0 s 0)) T (kk T i)) (pre (addP (at0 r 0) (at0 s 0)) T (kk T (i + 1))) q := fun q hq => by
  rw [det_next, pre_next hi, sub_add]
  refine crs_sum_nonneg fun d hd => ?_
  obtain ⟨x, x1, x2, x3, rfl⟩ := block_mem hi hd
  exact (h.vertex (kk_in hi).2 x1 x3 (fun y y1 y2 => kk_gap hi y1 (by omega))).2 q hq
theorem Merged.blocks_lt (h : Merged r s T) {i : Nat} (hi : i + 1 < (news T).length) {d e : Pt} (hd : d ∈ block T i) (he : e ∈ block T (i + 1)) : elt d e = true := by
  obtain ⟨x, x1, x2, x3, rfl⟩ := block_mem (by omega) hd
  obtain ⟨y, y1, y2, y3, rfl⟩ := block_mem hi he
  have k := kk_in hi
  obtain ⟨j, hj⟩ : ∃ j, kk T (i + 1) = j + 1 := ⟨kk T (i + 1) - 1, by omega⟩
  rw [hj] at k
  have a := (h.new_iff k.1).1 k.2
  have b := h.le (i := x) (j := j) (by omega) (by omega)
  have c := h.le (i := j + 1) (j := y) (by omega) y3
  exact ord_elt.trans (h.dir x3) (h.dir k.1) (h.dir y3) (ord_elt.trans' (h.dir x3) (h.dir (by omega)) (h.dir k.1) b a) c
theorem det_two (a u w : Pt) : det a (addP a u) (addP (addP a u) w) = crs u w := by unfold det crs addP; grind
theorem G0_pre_next {T : List Pt} {P : Pt} {i : Nat} (hi : i < (news T).length) : G0 (pre P T (kk T (i + 1))) = G0 (pre P T (kk T i)) + G0 (sumL (block T i)) := by rw [pre_next hi, G0_add]
theorem Merged.three (h : Merged r s T) : 3 ≤ (news T).length := by
  have h3 := h.br.three
  have hl := h.len
  have mk : ∀ i, i < r.length → ∃ x, x < T.length ∧ at0 T x = edgeV r i := fun i hi => mem_at ((h.mem _).2 (.inl ⟨i, hi, rfl⟩))
  have st : ∀ {x y : Nat}, x < T.length → y < T.length → elt (at0 T x) (at0 T y) = true → x < y ∧ ∃ z, x < z ∧ z ≤ y ∧ newE T z = true := fun {x y} hx hy e => by
    have xy : x < y := by
      rcases Nat.lt_or_ge x y with c | c
      · exact c
      · have := h.le (i := y) (j := x) c hx
        rw [this] at e; cases e
    refine ⟨xy, Classical.byContradiction fun hno => ?_⟩
    have := h.like (k := x) (x := y) (by omega) hy (fun z z1 z2 => by
      cases q : newE T z
      · rfl
      · exact absurd ⟨z, z1, z2, q⟩ hno)
    rw [this] at e; cases e
  obtain ⟨x0, a0, e0⟩ := mk 0 (by omega)
  obtain ⟨x1, a1, e1⟩ := mk 1 (by omega)
  obtain ⟨x2, a2, e2⟩ := mk 2 (by omega)
  obtain ⟨_, z1, b1, b2, b3⟩ := st a0 a1 (by rw [e0, e1]; exact h.br.lt (by omega) (by omega))
  obtain ⟨_, z2, c1, c2, c3⟩ := st a1 a2 (by rw [e1, e2]; exact h.br.lt (by omega) (by omega))
  have : ([0, z1, z2] : List Nat).length ≤ (news T).length := nodup_le (by simp; omega) (fun x hx => by
    simp only [List.mem_cons, List.not_mem_nil, or_false] at hx
    refine List.mem_filter.2 ⟨List.mem_range.2 ?_, ?_⟩
    · rcases hx with rfl | rfl | rfl <;> omega
    · rcases hx with rfl | rfl | rfl
      · exact new0 T
      · exact b3
      · exact c3)
  exact this
/-- The partial sums are the hull of the sums. -/
theorem Merged.hull (h : Merged r s T) : HullY (sums2 r s) (outV (addP (at0 r 0) (at0 s 0)) T) := by
  have r3 := h.br.three
  have s3 := h.bs.three
  have hl := h.len
  have N3 := h.three
  have T0 : 0 < T.length := by omega
  have z := kk_zero T0
  obtain ⟨P, hP⟩ : ∃ P, P = addP (at0 r 0) (at0 s 0) := ⟨_, rfl⟩
  have el := fun {i : Nat} (hi : i < (news T).length) => h.edge_left hi
  have vx := fun {i : Nat} (hi : i < (news T).length) => (h.vertex (k := kk T i) (x := kk T i) (kk_in hi).2 (Nat.le_refl _) (kk_in hi).1 (fun y a b => absurd a (by omega))).1
  rw [← hP] at el vx ⊢
  have rvo := fun {i : Nat} (hi : i ≤ (news T).length) => h.rv_out P hi T0
  have ol := outV_len P T
  -- the upper directions come first
  obtain ⟨U, hU, u1, u2⟩ := first_false (fun x => upB (at0 T x)) T.length (fun a b q w e => by
    have := h.le q w
    rw [elt_no] at this
    rcases this with ⟨a1, _⟩ | ⟨a1, _⟩
    · exact a1
    · rw [a1]; exact e)
  obtain ⟨x0, hx0, ex0⟩ := mem_at ((h.mem (edgeV r 0)).2 (.inl ⟨0, by omega, rfl⟩))
  obtain ⟨x1, hx1, ex1⟩ := mem_at ((h.mem (edgeV r (r.length - 1))).2 (.inl ⟨r.length - 1, by omega, rfl⟩))
  have U0 : 0 < U := by
    rcases Nat.lt_or_ge x0 U with c | c
    · omega
    · have := u2 x0 c hx0
      rw [ex0, h.br.first] at this; cases this
  have UN : U < T.length := by
    rcases Nat.lt_or_ge x1 U with c | c
    · have := u1 x1 c
      rw [ex1, h.br.last] at this; cases this
    · omega
  have nU : newE T U = true := by
    obtain ⟨j, rfl⟩ : ∃ j, U = j + 1 := ⟨U - 1, by omega⟩
    rw [h.new_iff UN, elt_iff]
    exact .inl ⟨u1 j (by omega), u2 (j + 1) (Nat.le_refl _) UN⟩
  obtain ⟨m, hm, em⟩ := kk_find UN nU
  have m0 : 0 < m := by
    rcases Nat.eq_zero_or_pos m with c | c
    · rw [c, z.2] at em; omega
    · exact c
  have upb : ∀ {i : Nat}, i < m → ∀ d ∈ block T i, upB d = true := fun {i} hi d hd => by
    obtain ⟨x, a1, a2, a3, rfl⟩ := block_mem (by omega) hd
    have := kk_le (T := T) (i := i + 1) (j := m) (by omega) (by omega)
    exact u1 x (by omega)
  have dnb : ∀ {i : Nat}, m ≤ i → i < (news T).length → ∀ d ∈ block T i, upB d = false := fun {i} hi hn d hd => by
    obtain ⟨x, a1, a2, a3, rfl⟩ := block_mem (by omega) hd
    have := kk_le (T := T) (i := m) (j := i) hi (by omega)
    exact u2 x (by omega) a3
  have dirb : ∀ {i : Nat}, i < (news T).length → ∀ d ∈ block T i, Dir d := fun {i} hi d hd => by
    obtain ⟨x, a1, a2, a3, rfl⟩ := block_mem (by omega) hd
    exact h.dir a3
  have turn : ∀ {i : Nat}, i + 1 < (news T).length → (i + 1 < m ∨ m ≤ i) → 0 < det (pre P T (kk T i)) (pre P T (kk T (i + 1))) (pre P T (kk T (i + 2))) := fun {i} hi hh => by
    rw [pre_next (i := i + 1) hi, pre_next (i := i) (by omega), det_two]
    refine crs_pos_sum (block_ne (by omega)) (block_ne hi) fun d hd e he => ?_
    have := h.blocks_lt hi hd he
    rw [elt_iff] at this
    rcases this with ⟨a, b⟩ | ⟨_, a⟩
    · rcases hh with c | c
      · rw [upb (by omega) e he] at b; cases b
      · rw [dnb c (by omega) d hd] at a; cases a
    · exact a
  have hull := ring_convex (K := 1) (L := 40001) (P := sums2 r s) (s := outV P T) (m := m) (by omega) m0 (by omega)
    ⟨fun i hi => by
      show G0 (at0 (outV P T) i) < G0 (at0 (outV P T) (i + 1))
      rw [outV_at (by omega), outV_at (by omega), G0_pre_next (by omega)]
      have := (G0_sum_pos (l := block T i) (fun d hd => dir_up (dirb (by omega) d hd) (upb hi d hd))).1 (block_ne (by omega))
      omega, fun i hi => by
      show 0 < det (at0 (outV P T) i) (at0 (outV P T) (i + 1)) (at0 (outV P T) (i + 2))
      rw [outV_at (by omega), outV_at (by omega), outV_at (by omega)]
      exact turn (by omega) (.inl (by omega))⟩
    ⟨fun i hi => by
      show lin (-1) (-40001) (rv (outV P T) (m + i)) < lin (-1) (-40001) (rv (outV P T) (m + (i + 1)))
      have g : ∀ p, lin (-1) (-40001) p = - G0 p := fun p => by unfold G0 lin; omega
      rw [g, g, rvo (by omega), rvo (by omega), ← Nat.add_assoc, G0_pre_next (by omega)]
      have := (G0_sum_neg (l := block T (m + i)) (fun d hd => dir_dn (dirb (by omega) d hd) (dnb (by omega) (by omega) d hd))).1 (block_ne (by omega))
      omega, fun i hi => by
      show 0 < det (rv (outV P T) (m + i)) (rv (outV P T) (m + (i + 1))) (rv (outV P T) (m + (i + 2)))
      rw [rvo (by omega), rvo (by omega), rvo (by omega), ← Nat.add_assoc, ← Nat.add_assoc]
      exact turn (by omega) (.inr (by omega))⟩
    (fun q hq => by
      obtain ⟨i, hi, rfl⟩ := mem_at hq
      rw [ol] at hi
      rw [outV_at hi]; exact vx hi)
    (fun q hq => ⟨fun i hi => by
      rw [outV_at (by omega), outV_at (by omega)]
      exact el (by omega) q hq, fun i hi => by
      rw [ol] at hi
      rw [rvo (by omega), rvo (by omega)]
      exact el (by omega) q hq⟩)
  refine ⟨hull, fun q hq => ?_⟩
  rw [outV_at z.1, z.2]
  have e0 : pre P T 0 = P := by unfold pre sumL addP; simp
  rw [e0, hP]
  obtain ⟨a, ha, b, hb, rfl⟩ := mem_sums2.1 hq
  obtain ⟨i, hi, rfl⟩ := mem_at ha
  obtain ⟨j, hj, rfl⟩ := mem_at hb
  have l1 := h.br.least i hi
  have l2 := h.bs.least j hj
  generalize at0 r 0 = p at *
  generalize at0 s 0 = t at *
  generalize at0 r i = p' at *
  generalize at0 s j = t' at *
  obtain ⟨p1, p2⟩ := p
  obtain ⟨t1, t2⟩ := t
  obtain ⟨q1, q2⟩ := p'
  obtain ⟨w1, w2⟩ := t'
  unfold lexy addP at *
  simp only [Prod.mk.injEq] at *
  omega
end
end Go.Proofs.YtpbgimdbhgahkaaGreat
