/- Layer 15 (plain): directions in order; the lowest vertex with regard to a direction. -/
import Derived.Test.YtbienlhofkfdpaaMinkP3
import Derived.Test.YtbienlhofkfdpaaMinkS1
namespace Go.Proofs.Ytbienlhofkfdpaa
set_option linter.unusedVariables false
set_option linter.unusedSimpArgs false

def G0 (p : Pt) : Int := lin 1 40001 p
def Dir (p : Pt) : Prop := near 20000 p ∧ p ≠ (0, 0)
def Dir16 (p : Pt) : Prop := near 16000 p ∧ p ≠ (0, 0)
theorem Dir16.dir {p : Pt} (h : Dir16 p) : Dir p := ⟨by have := h.1; unfold near at *; omega, h.2⟩
def elt (p q : Pt) : Bool := (upB p && !upB q) || ((upB p == upB q) && decide (0 < crs p q))
theorem dir_up {p : Pt} (h : Dir p) (hu : upB p = true) : 0 < G0 p := by
  obtain ⟨x, y⟩ := p
  have h1 := h.1
  unfold upB at hu
  unfold near at h1
  unfold G0 lin
  simp at hu h1 ⊢
  omega
theorem dir_dn {p : Pt} (h : Dir p) (hu : upB p = false) : G0 p < 0 := by
  obtain ⟨x, y⟩ := p
  have h1 := h.1
  have h2 := h.2
  unfold upB at hu
  unfold near at h1
  unfold G0 lin
  simp at hu h1 h2 ⊢
  omega
theorem crs_three (u d w : Pt) : crs u d * G0 w + crs d w * G0 u + crs w u * G0 d = 0 := by unfold crs G0 lin; grind
theorem crs_swap (u w : Pt) : crs w u = - crs u w := by unfold crs; grind
theorem crs_add (d p q : Pt) : crs d (addP p q) = crs d p + crs d q := by unfold crs addP; grind
theorem add_crs (d p q : Pt) : crs (addP p q) d = crs p d + crs q d := by unfold crs addP; grind
theorem G0_add (p q : Pt) : G0 (addP p q) = G0 p + G0 q := by unfold G0 lin addP; grind
theorem neg_of_mul {a b : Int} (ha : 0 < a) (h : a * b < 0) : b < 0 := by
  rcases Int.lt_trichotomy b 0 with q | q | q
  · exact q
  · rw [q] at h; simp at h
  · have := Int.mul_pos ha q; omega
theorem elt_iff {p q : Pt} : elt p q = true ↔ (upB p = true ∧ upB q = false) ∨ (upB p = upB q ∧ 0 < crs p q) := by
  unfold elt
  cases upB p <;> cases upB q <;> simp
theorem elt_no {p q : Pt} : elt q p = false ↔ (upB p = true ∧ upB q = false) ∨ (upB p = upB q ∧ 0 ≤ crs p q) := by
  have := crs_swap p q
  unfold elt
  cases upB p <;> cases upB q <;> simp <;> omega
/-- Of three directions, the sum of signs: a from b, b from c. -/
theorem crs_pos {u d w : Pt} (s1 : 0 ≤ crs u d * G0 w) (s2 : 0 < crs w u * G0 d) : crs d w * G0 u < 0 := by
  have := crs_three u d w; omega
theorem ord_elt : OrdOn Dir elt where
  asym x y hx hy h := by
    have := crs_swap x y
    rw [elt_iff] at h
    rw [elt_no]
    rcases h with h | h
    · exact .inl h
    · exact .inr ⟨h.1, by omega⟩
  ntrans x y z hx hy hz h1 h2 := by
    rw [elt_no] at *
    have t := crs_three x y z
    have e := crs_swap x z
    rcases h1 with ⟨a1, a2⟩ | ⟨a1, a2⟩
    · rcases h2 with ⟨b1, b2⟩ | ⟨b1, b2⟩
      · rw [a2] at b1; cases b1
      · exact .inl ⟨a1, by rw [← b1]; exact a2⟩
    · rcases h2 with ⟨b1, b2⟩ | ⟨b1, b2⟩
      · exact .inl ⟨by rw [a1]; exact b1, b2⟩
      · refine .inr ⟨a1.trans b1, ?_⟩
        cases hu : upB y
        · have gx := dir_dn hx (by rw [a1]; exact hu)
          have gy := dir_dn hy hu
          have gz := dir_dn hz (by rw [← b1]; exact hu)
          have m1 := Int.mul_nonneg a2 (show 0 ≤ -G0 z by omega)
          have m2 := Int.mul_nonneg b2 (show 0 ≤ -G0 x by omega)
          rw [Int.mul_neg] at m1 m2
          refine nonneg_of_mul (a := -G0 y) (by omega) ?_
          rw [Int.neg_mul, Int.mul_comm]
          rw [e, Int.neg_mul] at t
          omega
        · have gx := dir_up hx (by rw [a1]; exact hu)
          have gy := dir_up hy hu
          have gz := dir_up hz (by rw [← b1]; exact hu)
          have m1 := Int.mul_nonneg a2 (show 0 ≤ G0 z by omega)
          have m2 := Int.mul_nonneg b2 (show 0 ≤ G0 x by omega)
          refine nonneg_of_mul (a := G0 y) (by omega) ?_
          rw [Int.mul_comm]
          rw [e, Int.neg_mul] at t
          omega

/-- A convex ring that begins with its least vertex. -/
structure Begun (r : List Pt) : Prop where
  three : 3 ≤ r.length
  nr : ∀ p ∈ r, near 8000 p
  conv : ConvexI r
  least : ∀ j, j < r.length → ¬ lexy (at0 r j) (at0 r 0)
section
variable {r : List Pt}
theorem Begun.near2 (h : Begun r) (i : Nat) : near 8000 (rv r i) := h.nr _ (rv_mem (by have := h.three; omega))
theorem edgeV_mod (r : List Pt) (i : Nat) : edgeV r (i % r.length) = edgeV r i := by
  unfold edgeV rv
  rw [Nat.mod_mod, Nat.mod_add_mod]
theorem edgeV_len (r : List Pt) : edgeV r r.length = edgeV r 0 := by rw [← edgeV_mod r r.length, Nat.mod_self]
theorem rv_len (r : List Pt) : rv r r.length = rv r 0 := by unfold rv; rw [Nat.mod_self, Nat.zero_mod]
theorem Begun.next_ne (h : Begun r) (i : Nat) : rv r i ≠ rv r (i + 1) := by
  have h3 := h.three
  have := (h.conv.self h3).next_ne (i := i % r.length) (Nat.mod_lt _ (by omega))
  have e : rv r (i % r.length + 1) = rv r (i + 1) := by unfold rv; rw [Nat.mod_add_mod]
  rw [e] at this
  exact this
theorem Begun.dir (h : Begun r) (i : Nat) : Dir (edgeV r i) := by
  have a := h.near2 i
  have b := h.near2 (i + 1)
  have c := h.next_ne i
  refine ⟨?_, fun e => c ?_⟩
  · unfold edgeV subP near at *; omega
  · unfold edgeV subP at e
    simp at e
    exact Prod.ext (by omega) (by omega)
theorem Begun.first (h : Begun r) : upB (edgeV r 0) = true := by
  have h3 := h.three
  have a := h.least 1 (by omega)
  have b := h.next_ne 0
  unfold edgeV
  rw [upB_lexy]
  rw [rv_lt (by omega), rv_lt (by omega)] at *
  rcases lexy_tri (at0 r 0) (at0 r 1) with q | q | q
  · exact q
  · exact absurd q b
  · exact absurd q a
theorem Begun.last (h : Begun r) : upB (edgeV r (r.length - 1)) = false := by
  have h3 := h.three
  have a := h.least (r.length - 1) (by omega)
  cases hu : upB (edgeV r (r.length - 1))
  · rfl
  · unfold edgeV at hu
    rw [upB_lexy, show r.length - 1 + 1 = r.length by omega, rv_len, rv_lt (by omega), rv_lt (by omega)] at hu
    exact absurd hu a
theorem Begun.left (h : Begun r) (i : Nat) : 0 < crs (edgeV r i) (edgeV r (i + 1)) := by
  have h3 := h.three
  have := h.conv.left_turn h3 (i := i % r.length) (Nat.mod_lt _ (by omega))
  have l := leftAt_det.2 this
  unfold leftAt at l
  rw [decide_eq_true_eq, edgeV_mod] at l
  have e : edgeV r (i % r.length + 1) = edgeV r (i + 1) := by
    rw [← edgeV_mod r (i % r.length + 1), Nat.mod_add_mod, edgeV_mod]
  rwa [e] at l
theorem Begun.lt1 (h : Begun r) {i : Nat} (hi : i + 1 < r.length) : elt (edgeV r i) (edgeV r (i + 1)) = true := by
  have h3 := h.three
  obtain ⟨k, hk, hp, hu⟩ := one_of_filter (show ((List.range r.length).filter (turnAt r)).length = 1 from convex_turns h3 h.nr h.conv)
  have t : turnAt r (r.length - 1) = true := by
    unfold turnAt
    rw [h.last, show r.length - 1 + 1 = r.length by omega, edgeV_len, h.first]; rfl
  have e1 := hu _ (by omega) t
  have l := h.left i
  rw [elt_iff]
  cases a : upB (edgeV r i) <;> cases b : upB (edgeV r (i + 1))
  · exact .inr ⟨rfl, l⟩
  · have : turnAt r i = true := by unfold turnAt; rw [a, b]; rfl
    have := hu i (by omega) this
    omega
  · exact .inl ⟨rfl, rfl⟩
  · exact .inr ⟨rfl, l⟩
theorem Begun.lt (h : Begun r) : ∀ {i j : Nat}, i < j → j < r.length → elt (edgeV r i) (edgeV r j) = true
  | i, 0, h1, _ => absurd h1 (by omega)
  | i, j + 1, h1, h2 => by
    have l := h.lt1 h2
    by_cases e : i = j
    · rw [e]; exact l
    · exact ord_elt.trans (h.dir _) (h.dir _) (h.dir _) (h.lt (i := i) (j := j) (by omega) (by omega)) (ord_elt.asym _ _ (h.dir _) (h.dir _) l)
theorem crs_lin (d p : Pt) : crs d p = lin (-d.2) d.1 p := by unfold crs lin; grind
theorem crs_sub (d p q : Pt) : crs d (subP p q) = crs d p - crs d q := by unfold crs subP; grind
/-- A vertex at which the edges pass a direction is the lowest. -/
theorem Begun.corner (h : Begun r) {d : Pt} {c : Nat} (h1 : 0 ≤ crs (edgeV r c) d) (h2 : 0 ≤ crs d (edgeV r (c + 1))) : ∀ q ∈ r, 0 ≤ crs d (subP q (rv r (c + 1))) := fun q hq => by
  have h3 := h.three
  have L := h.left c
  have lf := fun (i : Nat) => h.conv.left (i % r.length) (Nat.mod_lt _ (by omega)) q hq
  have e : ∀ i, rv r (i % r.length + 1) = rv r (i + 1) := fun i => by unfold rv; rw [Nat.mod_add_mod]
  have A := lf c
  have B := lf (c + 1)
  rw [e] at A B
  have D : 0 < det (rv r c) (rv r (c + 1)) (rv r (c + 2)) := by rw [det_crs]; exact L
  have := cone (-d.2) d.1 (a := rv r c) (v := rv r (c + 1)) (b := rv r (c + 2)) (q := q) D A B (by
    rw [← crs_lin, ← crs_lin]
    have : crs d (edgeV r c) = crs d (rv r (c + 1)) - crs d (rv r c) := crs_sub _ _ _
    have s := crs_swap d (edgeV r c)
    omega) (by
    rw [← crs_lin, ← crs_lin]
    have : crs d (edgeV r (c + 1)) = crs d (rv r (c + 2)) - crs d (rv r (c + 1)) := crs_sub _ _ _
    omega)
  rw [← crs_lin, ← crs_lin] at this
  rw [crs_sub]
  omega
/-- Between an edge and the next there is a direction: it passes both on the same side. -/
theorem between {u d w : Pt} (hu : Dir u) (hd : Dir d) (hw : Dir w) (L : 0 < crs u w)
    (h : (upB u = false ∧ upB w = true ∧ elt w d = false) ∨ (elt u d = true ∧ elt w d = false) ∨ (upB u = false ∧ upB w = true ∧ elt u d = true)) : 0 ≤ crs u d ∧ 0 ≤ crs d w := by
  have t := crs_three u d w
  have e := crs_swap u w
  rw [e, Int.neg_mul] at t
  rw [elt_iff, elt_no] at h
  rcases h with ⟨a, b, h | h⟩ | ⟨h | h, k | k⟩ | ⟨a, b, h | h⟩
  · rw [b] at h; cases h.2
  · have gu := dir_dn hu a
    have gw := dir_up hw b
    have gd := dir_up hd (by rw [h.1]; exact b)
    have m1 := Int.mul_nonneg h.2 (show 0 ≤ -G0 u by omega)
    have m2 := Int.mul_pos L gd
    rw [Int.mul_neg] at m1
    have : 0 < crs u d := pos_of_mul gw (by rw [Int.mul_comm]; omega)
    exact ⟨by omega, h.2⟩
  · rw [h.2] at k; cases k.1
  · have gu := dir_up hu h.1
    have gd := dir_dn hd h.2
    have gw := dir_dn hw (by rw [← k.1]; exact h.2)
    have m1 := Int.mul_nonneg k.2 (show 0 ≤ G0 u by omega)
    have m2 := Int.mul_pos L (show 0 < -G0 d by omega)
    rw [Int.mul_neg] at m2
    have : 0 < crs u d := pos_of_mul (a := -G0 w) (by omega) (by rw [Int.neg_mul, Int.mul_comm]; omega)
    exact ⟨by omega, k.2⟩
  · have gd := dir_up hd k.1
    have gu := dir_up hu (by rw [h.1]; exact k.1)
    have gw := dir_dn hw k.2
    have m1 := Int.mul_pos h.2 (show 0 < -G0 w by omega)
    have m2 := Int.mul_pos L gd
    rw [Int.mul_neg] at m1
    have : 0 < crs d w := pos_of_mul gu (by rw [Int.mul_comm]; omega)
    exact ⟨by omega, by omega⟩
  · exact ⟨by omega, k.2⟩
  · rw [a] at h; cases h.1
  · have gu := dir_dn hu a
    have gw := dir_up hw b
    have gd := dir_dn hd (by rw [← h.1]; exact a)
    have m1 := Int.mul_pos h.2 gw
    have m2 := Int.mul_pos L (show 0 < -G0 d by omega)
    rw [Int.mul_neg] at m2
    have : 0 < crs d w := pos_of_mul (a := -G0 u) (by omega) (by rw [Int.neg_mul, Int.mul_comm]; omega)
    exact ⟨by omega, by omega⟩

def sumL (l : List Pt) : Pt := l.foldr addP (0, 0)
theorem sumL_app (l m : List Pt) : sumL (l ++ m) = addP (sumL l) (sumL m) := by
  induction l with
  | nil => unfold sumL addP; simp
  | cons a l ih =>
    have e1 : sumL (a :: l ++ m) = addP a (sumL (l ++ m)) := rfl
    have e2 : sumL (a :: l) = addP a (sumL l) := rfl
    rw [e1, e2, ih]; unfold addP; simp; omega
theorem sumL_one (a : Pt) : sumL [a] = a := by unfold sumL addP; simp
theorem sumL_perm {l m : List Pt} (h : l.Perm m) : sumL l = sumL m := by
  induction h with
  | nil => rfl
  | cons a _ ih => show addP a _ = addP a _; unfold sumL at ih; rw [ih]
  | swap a b l => show addP b (addP a _) = addP a (addP b _); unfold addP; simp; omega
  | trans _ _ h1 h2 => exact h1.trans h2
def dirsN (r : List Pt) (k : Nat) : List Pt := (List.range k).map (edgeV r)
theorem dirsN_len (r : List Pt) (k : Nat) : (dirsN r k).length = k := by unfold dirsN; simp
theorem dirsN_at {r : List Pt} {k i : Nat} (h : i < k) : at0 (dirsN r k) i = edgeV r i := by
  rw [at0_eq (by rw [dirsN_len]; exact h)]; simp [dirsN]
theorem dirsN_succ (r : List Pt) (k : Nat) : dirsN r (k + 1) = dirsN r k ++ [edgeV r k] := by unfold dirsN; rw [List.range_succ, List.map_append]; rfl
theorem dirsN_take {r : List Pt} {k n : Nat} (h : k ≤ n) : (dirsN r n).take k = dirsN r k := by
  unfold dirsN; rw [← List.map_take, List.take_range, Nat.min_eq_left h]
theorem dirsN_sum (r : List Pt) : ∀ k, addP (rv r 0) (sumL (dirsN r k)) = rv r k
  | 0 => by unfold dirsN sumL addP; simp
  | k + 1 => by
    have ih := dirsN_sum r k
    rw [dirsN_succ, sumL_app, sumL_one]
    unfold edgeV subP addP at *
    have i1 := congrArg Prod.fst ih
    have i2 := congrArg Prod.snd ih
    simp only at i1 i2
    exact Prod.ext (by simp only; omega) (by simp only; omega)
theorem filter_split {T : List Pt} {p : Pt → Bool} {k : Nat} (hk : k ≤ T.length) (h1 : ∀ x, x < k → p (at0 T x) = true) (h2 : ∀ x, k ≤ x → x < T.length → p (at0 T x) = false) : T.filter p = T.take k := by
  have a : (T.take k).filter p = T.take k := List.filter_eq_self.2 fun a ha => by
    obtain ⟨i, hi, rfl⟩ := mem_at ha
    rw [List.length_take] at hi
    rw [at0_take (by omega)]; exact h1 i (by omega)
  have b : (T.drop k).filter p = [] := List.filter_eq_nil_iff.2 fun a ha => by
    obtain ⟨i, hi, rfl⟩ := mem_at ha
    rw [List.length_drop] at hi
    rw [at0_drop]
    have := h2 (k + i) (by omega) (by omega)
    rw [this]; simp
  calc T.filter p = (T.take k ++ T.drop k).filter p := by rw [List.take_append_drop]
    _ = T.take k := by rw [List.filter_append, a, b, List.append_nil]
theorem first_false (p : Nat → Bool) (n : Nat) (hm : ∀ i j, i ≤ j → j < n → p j = true → p i = true) : ∃ i, i ≤ n ∧ (∀ x, x < i → p x = true) ∧ ∀ x, i ≤ x → x < n → p x = false := by
  induction n with
  | zero => exact ⟨0, Nat.le_refl _, fun x hx => absurd hx (by omega), fun x _ hx => absurd hx (by omega)⟩
  | succ n ih =>
    cases hp : p n
    · obtain ⟨i, h1, h2, h3⟩ := ih fun a b q w => hm a b q (by omega)
      refine ⟨i, by omega, h2, fun x q w => ?_⟩
      rcases Nat.lt_or_ge x n with c | c
      · exact h3 x q c
      · obtain rfl : x = n := by omega
        exact hp
    · exact ⟨n + 1, Nat.le_refl _, fun x q => hm x n (by omega) (by omega) hp, fun x q w => absurd q (by omega)⟩
/-- The edges ahead of a direction lead to the lowest vertex. -/
theorem Begun.low (h : Begun r) {d : Pt} (hd : Dir d) : ∃ v ∈ r, (∀ q ∈ r, 0 ≤ crs d (subP q v)) ∧ addP (at0 r 0) (sumL ((dirsN r r.length).filter (fun e => elt e d))) = v := by
  have h3 := h.three
  obtain ⟨i, h1, h2, h4⟩ := first_false (fun x => elt (edgeV r x) d) r.length (fun a b q w e => by
    rcases Nat.lt_or_ge a b with c | c
    · have := h.lt c w
      exact ord_elt.trans (h.dir _) (h.dir _) hd this (ord_elt.asym _ _ (h.dir _) hd e)
    · obtain rfl : a = b := by omega
      exact e)
  refine ⟨rv r i, rv_mem (by omega), ?_, ?_⟩
  · have key : ∀ c, rv r (c + 1) = rv r i → (0 ≤ crs (edgeV r c) d ∧ 0 ≤ crs d (edgeV r (c + 1))) → ∀ q ∈ r, 0 ≤ crs d (subP q (rv r i)) := fun c e k => by
      rw [← e]; exact h.corner k.1 k.2
    have en : r.length - 1 + 1 = r.length := by omega
    have ll := h.left (r.length - 1)
    rw [en, edgeV_len] at ll
    by_cases i0 : i = 0
    · refine key (r.length - 1) (by rw [i0, en, rv_len]) ?_
      rw [en, edgeV_len]
      exact between (h.dir _) hd (h.dir _) ll (.inl ⟨h.last, h.first, h4 0 (by omega) (by omega)⟩)
    · by_cases il : i = r.length
      · refine key (r.length - 1) (by rw [il, en]) ?_
        rw [en, edgeV_len]
        exact between (h.dir _) hd (h.dir _) ll (.inr (.inr ⟨h.last, h.first, h2 _ (by omega)⟩))
      · refine key (i - 1) (by rw [show i - 1 + 1 = i by omega]) ?_
        have l1 := h.left (i - 1)
        have f1 := h2 (i - 1) (by omega)
        have f2 := h4 i (Nat.le_refl _) (by omega)
        rw [show i - 1 + 1 = i by omega] at *
        exact between (h.dir _) hd (h.dir _) l1 (.inr (.inl ⟨f1, f2⟩))
  · rw [filter_split (k := i) (by rw [dirsN_len]; exact h1) (fun x hx => by rw [dirsN_at (by omega)]; exact h2 x hx) (fun x hx hl => by
      rw [dirsN_len] at hl
      rw [dirsN_at hl]; exact h4 x hx hl), dirsN_take h1]
    have := dirsN_sum r i
    rw [rv_lt (i := 0) (by omega)] at this
    exact this
end
end Go.Proofs.Ytbienlhofkfdpaa
