/- Layer 15: plain part of the merging sort: swaps, blocks that change places, what the merge needs. -/
import Derived.Test.YtpbgimdbhgahkaaGreatHullP7
namespace Go.Proofs.YtpbgimdbhgahkaaGreat
set_option linter.unusedVariables false
set_option linter.unusedSimpArgs false

theorem at0_set {l : List Pt} {i j : Nat} {x : Pt} (h : i < l.length) : at0 (l.set i x) j = if j = i then x else at0 l j := by
  unfold at0
  by_cases e : j = i
  · subst e
    rw [if_pos rfl]
    simp [List.getD_eq_getElem?_getD, h]
  · rw [if_neg e]
    simp [List.getD_eq_getElem?_getD, List.getElem?_set, Ne.symm e]
def swp2 (l : List Pt) (i j : Nat) : List Pt := (l.set i (at0 l j)).set j (at0 l i)
theorem swp2_len (l : List Pt) (i j : Nat) : (swp2 l i j).length = l.length := by unfold swp2; simp
theorem swp2_at {l : List Pt} {i j : Nat} (hi : i < l.length) (hj : j < l.length) (k : Nat) : at0 (swp2 l i j) k = if k = j then at0 l i else if k = i then at0 l j else at0 l k := by
  unfold swp2
  rw [at0_set (by simpa using hj), at0_set hi]
theorem swp2_perm {l : List Pt} {i j : Nat} (hi : i < l.length) (hj : j < l.length) : (swp2 l i j).Perm l := by
  have e1 : at0 l i = l[i] := at0_eq hi
  have e2 : at0 l j = l[j] := at0_eq hj
  unfold swp2
  rw [e1, e2]
  exact List.set_set_perm hi hj

/-- Of a list, only the places from a to b are changed, and among themselves. -/
structure Re (l l' : List Pt) (a b : Nat) : Prop where
  perm : l'.Perm l
  out : ∀ i, i < a ∨ b ≤ i → at0 l' i = at0 l i
  inn : ∀ i, a ≤ i → i < b → ∃ i', a ≤ i' ∧ i' < b ∧ at0 l' i = at0 l i'
theorem Re.refl (l : List Pt) (a b : Nat) : Re l l a b := ⟨List.Perm.refl _, fun _ _ => rfl, fun i h1 h2 => ⟨i, h1, h2, rfl⟩⟩
theorem Re.len {l l' : List Pt} {a b : Nat} (h : Re l l' a b) : l'.length = l.length := h.perm.length_eq
theorem Re.trans {l l' l'' : List Pt} {a b : Nat} (h : Re l l' a b) (k : Re l' l'' a b) : Re l l'' a b :=
  ⟨k.perm.trans h.perm, fun i hi => (k.out i hi).trans (h.out i hi), fun i h1 h2 => by
    obtain ⟨j, j1, j2, e⟩ := k.inn i h1 h2
    obtain ⟨m, m1, m2, e'⟩ := h.inn j j1 j2
    exact ⟨m, m1, m2, e.trans e'⟩⟩
theorem Re.mono {l l' : List Pt} {a b c d : Nat} (h : Re l l' a b) (hc : c ≤ a) (hd : b ≤ d) : Re l l' c d :=
  ⟨h.perm, fun i hi => h.out i (by omega), fun i h1 h2 => by
    by_cases hi : a ≤ i ∧ i < b
    · obtain ⟨j, j1, j2, e⟩ := h.inn i hi.1 hi.2
      exact ⟨j, by omega, by omega, e⟩
    · exact ⟨i, h1, h2, h.out i (by omega)⟩⟩
theorem Re.swp2 {l : List Pt} {i j a b : Nat} (hi : a ≤ i ∧ i < b) (hj : a ≤ j ∧ j < b) (hb : b ≤ l.length) : Re l (swp2 l i j) a b := by
  refine ⟨swp2_perm (by omega) (by omega), fun k hk => ?_, fun k h1 h2 => ?_⟩
  · rw [swp2_at (by omega) (by omega), if_neg (by omega), if_neg (by omega)]
  · rw [swp2_at (by omega) (by omega)]
    split
    · exact ⟨i, hi.1, hi.2, rfl⟩
    · split
      · exact ⟨j, hj.1, hj.2, rfl⟩
      · exact ⟨k, h1, h2, rfl⟩

/-- Two blocks of n change places. -/
def swapF (l : List Pt) (a b : Nat) : Nat → List Pt
  | 0 => l
  | n + 1 => Go.Proofs.YtpbgimdbhgahkaaGreat.swp2 (swapF l a b n) (a + n) (b + n)
theorem swapF_len (l : List Pt) (a b : Nat) : ∀ n, (swapF l a b n).length = l.length
  | 0 => rfl
  | n + 1 => by rw [swapF, swp2_len, swapF_len l a b n]
theorem swapF_re {l : List Pt} {a b c d : Nat} : ∀ {n : Nat}, c ≤ a → a + n ≤ b → b + n ≤ d → d ≤ l.length → Re l (swapF l a b n) c d
  | 0, _, _, _, _ => Re.refl _ _ _
  | n + 1, h1, h2, h3, h4 => (swapF_re (n := n) h1 (by omega) (by omega) h4).trans (Re.swp2 (by omega) (by omega) (by rw [swapF_len]; exact h4))
theorem swapF_at {l : List Pt} {a b : Nat} : ∀ {n : Nat}, a + n ≤ b → b + n ≤ l.length → ∀ k, at0 (swapF l a b n) k = if a ≤ k ∧ k < a + n then at0 l (k + (b - a)) else if b ≤ k ∧ k < b + n then at0 l (k - (b - a)) else at0 l k
  | 0, h1, h2, k => by
    rw [if_neg (by omega), if_neg (by omega)]; rfl
  | n + 1, h1, h2, k => by
    have ih := fun k => swapF_at (n := n) (l := l) (a := a) (b := b) (by omega) (by omega) k
    have hl := swapF_len l a b n
    have A : at0 (swapF l a b n) (a + n) = at0 l (a + n) := by rw [ih, if_neg (by omega), if_neg (by omega)]
    have B : at0 (swapF l a b n) (b + n) = at0 l (b + n) := by rw [ih, if_neg (by omega), if_neg (by omega)]
    rw [swapF, swp2_at (by omega) (by omega), A, B, ih k]
    by_cases e1 : k = b + n
    · rw [if_pos e1, if_neg (by omega), if_pos (by omega)]; congr 1; omega
    · rw [if_neg e1]
      by_cases e2 : k = a + n
      · rw [if_pos e2, if_pos (by omega)]; congr 1; omega
      · rw [if_neg e2]
        by_cases e3 : a ≤ k ∧ k < a + n
        · rw [if_pos e3, if_pos (by omega)]
        · rw [if_neg e3, if_neg (show ¬ (a ≤ k ∧ k < a + (n + 1)) by omega)]
          by_cases e4 : b ≤ k ∧ k < b + n
          · rw [if_pos e4, if_pos (by omega)]
          · rw [if_neg e4, if_neg (by omega)]
/-- The blocks from a to m and from m to b change places. -/
def Rot (l l' : List Pt) (a m b : Nat) : Prop := ∀ k, at0 l' k = if k < a ∨ b ≤ k then at0 l k else if k < a + (b - m) then at0 l (k + (m - a)) else at0 l (k - (b - m))
theorem Rot.none {l : List Pt} {a m b : Nat} (h : a ≤ m ∧ m ≤ b) (h2 : a = m ∨ m = b) : Rot l l a m b := fun k => by
  split
  · rfl
  · split
    · congr 1; omega
    · congr 1; omega
theorem Rot.left {l T : List Pt} {m i j : Nat} (hi : i ≤ m) (h : j < i) (hl : m + j ≤ l.length) (hT : Rot (swapF l (m - i) m j) T (m - (i - j)) m (m + j)) : Rot l T (m - i) m (m + j) := fun k => by
  have ih := fun k => swapF_at (n := j) (l := l) (a := m - i) (b := m) (by omega) (by omega) k
  rw [hT k, ih k, ih, ih]
  by_cases c1 : k < m - i ∨ m + j ≤ k
  · rw [if_pos c1, if_pos (by omega), if_neg (by omega), if_neg (by omega)]
  · rw [if_neg c1]
    by_cases c2 : k < m - i + j
    · rw [if_pos (by omega), if_pos (by omega), if_pos (by omega)]; (try (congr 1; omega))
    · rw [if_neg (by omega)]
      by_cases c3 : k < m - (i - j) + (m + j - m)
      · rw [if_pos c3, if_neg (by omega), if_pos (by omega), if_neg (by omega)]; congr 1; omega
      · rw [if_neg c3, if_neg (by omega), if_neg (by omega), if_neg (by omega)]
theorem Rot.right {l T : List Pt} {m i j : Nat} (hi : i ≤ m) (h : i < j) (hl : m + j ≤ l.length) (hT : Rot (swapF l (m - i) (m + j - i) i) T (m - i) m (m + (j - i))) : Rot l T (m - i) m (m + j) := fun k => by
  have ih := fun k => swapF_at (n := i) (l := l) (a := m - i) (b := m + j - i) (by omega) (by omega) k
  rw [hT k, ih k, ih, ih]
  by_cases c1 : k < m - i ∨ m + j ≤ k
  · rw [if_pos c1, if_pos (by omega), if_neg (by omega), if_neg (by omega)]
  · rw [if_neg c1]
    by_cases c2 : m + (j - i) ≤ k
    · rw [if_pos (by omega), if_neg (by omega), if_pos (by omega), if_neg (by omega)]; congr 1; omega
    · rw [if_neg (by omega)]
      by_cases c3 : k < m - i + (m + (j - i) - m)
      · rw [if_pos c3, if_neg (show ¬ (m - i ≤ k + (m - (m - i)) ∧ k + (m - (m - i)) < m - i + i) by omega), if_neg (show ¬ (m + j - i ≤ k + (m - (m - i)) ∧ k + (m - (m - i)) < m + j - i + i) by omega), if_pos (by omega)]
      · rw [if_neg c3, if_pos (by omega), if_pos (by omega)]; congr 1; omega
theorem Rot.same {l : List Pt} {m i : Nat} (hi : i ≤ m) (hl : m + i ≤ l.length) : Rot l (swapF l (m - i) m i) (m - i) m (m + i) := fun k => by
  rw [swapF_at (by omega) (by omega)]
  by_cases c1 : k < m - i ∨ m + i ≤ k
  · rw [if_pos c1, if_neg (by omega), if_neg (by omega)]
  · rw [if_neg c1]
    by_cases c2 : k < m
    · rw [if_pos (by omega), if_pos (by omega)]
    · rw [if_neg (by omega), if_pos (by omega), if_neg (by omega)]; congr 1; omega

/-- The element at a moves up to a + n. -/
def upF (l : List Pt) (a : Nat) : Nat → List Pt
  | 0 => l
  | n + 1 => Go.Proofs.YtpbgimdbhgahkaaGreat.swp2 (upF l a n) (a + n) (a + n + 1)
theorem upF_len (l : List Pt) (a : Nat) : ∀ n, (upF l a n).length = l.length
  | 0 => rfl
  | n + 1 => by rw [upF, swp2_len, upF_len l a n]
theorem upF_re {l : List Pt} {a c d : Nat} : ∀ {n : Nat}, c ≤ a → a + n < d → d ≤ l.length → Re l (upF l a n) c d
  | 0, _, _, _ => Re.refl _ _ _
  | n + 1, h1, h2, h3 => (upF_re (n := n) h1 (by omega) h3).trans (Re.swp2 (by omega) (by omega) (by rw [upF_len]; exact h3))
theorem upF_at {l : List Pt} {a : Nat} : ∀ {n : Nat}, a + n < l.length → ∀ k, at0 (upF l a n) k = if a ≤ k ∧ k < a + n then at0 l (k + 1) else if k = a + n then at0 l a else at0 l k
  | 0, h, k => by
    rw [if_neg (by omega)]
    split
    · rename_i e; rw [e]; rfl
    · rfl
  | n + 1, h, k => by
    have ih := fun k => upF_at (n := n) (l := l) (a := a) (by omega) k
    have hl := upF_len l a n
    have A : at0 (upF l a n) (a + n) = at0 l a := by rw [ih, if_neg (by omega), if_pos rfl]
    have B : at0 (upF l a n) (a + n + 1) = at0 l (a + n + 1) := by rw [ih, if_neg (by omega), if_neg (by omega)]
    rw [upF, swp2_at (by omega) (by omega), A, B, ih k]
    by_cases e1 : k = a + n + 1
    · rw [if_pos e1, if_neg (by omega), if_pos (by omega)]
    · rw [if_neg e1]
      by_cases e2 : k = a + n
      · rw [if_pos e2, if_pos (by omega), e2]
      · rw [if_neg e2]
        by_cases e3 : a ≤ k ∧ k < a + n
        · rw [if_pos e3, if_pos (by omega)]
        · rw [if_neg e3, if_neg e2, if_neg (by omega), if_neg (by omega)]
/-- The element at b moves down to b - n. -/
def dnF (l : List Pt) (b : Nat) : Nat → List Pt
  | 0 => l
  | n + 1 => Go.Proofs.YtpbgimdbhgahkaaGreat.swp2 (dnF l b n) (b - n) (b - n - 1)
theorem dnF_len (l : List Pt) (b : Nat) : ∀ n, (dnF l b n).length = l.length
  | 0 => rfl
  | n + 1 => by rw [dnF, swp2_len, dnF_len l b n]
theorem dnF_re {l : List Pt} {b c d : Nat} : ∀ {n : Nat}, n ≤ b → c ≤ b - n → b < d → d ≤ l.length → Re l (dnF l b n) c d
  | 0, _, _, _, _ => Re.refl _ _ _
  | n + 1, h0, h1, h2, h3 => (dnF_re (n := n) (by omega) (by omega) (by omega) h3).trans (Re.swp2 (by omega) (by omega) (by rw [dnF_len]; exact h3))
theorem dnF_at {l : List Pt} {b : Nat} (hb : b < l.length) : ∀ {n : Nat}, n ≤ b → ∀ k, at0 (dnF l b n) k = if b - n < k ∧ k ≤ b then at0 l (k - 1) else if k = b - n then at0 l b else at0 l k
  | 0, h, k => by
    rw [if_neg (by omega)]
    split
    · rename_i e; rw [e]; rfl
    · rfl
  | n + 1, h, k => by
    have ih := fun k => dnF_at (n := n) (l := l) (b := b) hb (by omega) k
    have hl := dnF_len l b n
    have A : at0 (dnF l b n) (b - n) = at0 l b := by rw [ih, if_neg (by omega), if_pos rfl]
    have B : at0 (dnF l b n) (b - n - 1) = at0 l (b - n - 1) := by rw [ih, if_neg (by omega), if_neg (by omega)]
    rw [dnF, swp2_at (by omega) (by omega), A, B, ih k]
    by_cases e1 : k = b - n - 1
    · rw [if_pos e1, if_neg (by omega), if_pos (by omega)]
    · rw [if_neg e1]
      by_cases e2 : k = b - n
      · rw [if_pos e2, if_pos (by omega), e2]
      · rw [if_neg e2]
        by_cases e3 : b - n < k ∧ k ≤ b
        · rw [if_pos e3, if_pos (by omega)]
        · rw [if_neg e3, if_neg e2, if_neg (by omega), if_neg (by omega)]

/-- An order of the elements of a kind. -/
structure OrdOn (D : Pt → Prop) (lt : Pt → Pt → Bool) : Prop where
  asym : ∀ x y, D x → D y → lt x y = true → lt y x = false
  ntrans : ∀ x y z, D x → D y → D z → lt y x = false → lt z y = false → lt z x = false
/-- The places from a to b are in order. -/
def Sd (lt : Pt → Pt → Bool) (l : List Pt) (a b : Nat) : Prop := ∀ i j, a ≤ i → i < j → j < b → lt (at0 l j) (at0 l i) = false
section
variable {D : Pt → Prop} {lt : Pt → Pt → Bool} {l l' : List Pt} {a m b s e : Nat}
theorem at0_D (h : ∀ x ∈ l, D x) {i : Nat} (hi : i < l.length) : D (at0 l i) := h _ (at0_mem hi)
theorem Re.allD (h : Re l l' a b) (hD : ∀ x ∈ l, D x) : ∀ x ∈ l', D x := fun x hx => hD x (h.perm.mem_iff.1 hx)
theorem OrdOn.trans (hO : OrdOn D lt) {x y z : Pt} (hx : D x) (hy : D y) (hz : D z) (h1 : lt x y = true) (h2 : lt z y = false) : lt x z = true := by
  cases h : lt x z
  · have := hO.ntrans z y x hz hy hx
    cases h3 : lt y z
    · exact absurd (hO.ntrans y z x hy hz hx h2 h) (by simp [h1])
    · exact absurd (hO.ntrans y z x hy hz hx h2 h) (by simp [h1])
  · rfl
theorem OrdOn.trans' (hO : OrdOn D lt) {x y z : Pt} (hx : D x) (hy : D y) (hz : D z) (h1 : lt y x = false) (h2 : lt y z = true) : lt x z = true := by
  cases h : lt x z
  · exact absurd (hO.ntrans z x y hz hx hy h h1) (by simp [h2])
  · rfl
theorem OrdOn.irrefl (hO : OrdOn D lt) {x : Pt} (hx : D x) : lt x x = false := by
  cases h : lt x x
  · rfl
  · exact absurd (hO.asym x x hx hx h) (by simp [h])
theorem Sd.le (hO : OrdOn D lt) (hD : ∀ x ∈ l, D x) (hb : b ≤ l.length) (h : Sd lt l a b) {i j : Nat} (h1 : a ≤ i) (h2 : i ≤ j) (h3 : j < b) : lt (at0 l j) (at0 l i) = false := by
  rcases Nat.lt_or_eq_of_le h2 with q | rfl
  · exact h i j h1 q h3
  · exact hO.irrefl (at0_D hD (by omega))
theorem Sd.sub (h : Sd lt l a b) {c d : Nat} (hc : a ≤ c) (hd : d ≤ b) : Sd lt l c d := fun i j h1 h2 h3 => h i j (by omega) h2 (by omega)
theorem Sd.out (h : Sd lt l a b) {c d : Nat} (hr : Re l l' c d) (ho : b ≤ c ∨ d ≤ a) : Sd lt l' a b := fun i j h1 h2 h3 => by
  rw [hr.out i (by omega), hr.out j (by omega)]; exact h i j h1 h2 h3
/-- One element put into a sorted range from the left. -/
theorem sd_up (hO : OrdOn D lt) (hD : ∀ x ∈ l, D x) (hb : b ≤ l.length) (ha : a < b) (h : Sd lt l (a + 1) b) {i : Nat} (h1 : a + 1 ≤ i) (h2 : i ≤ b)
    (hlo : ∀ t, a + 1 ≤ t → t < i → lt (at0 l t) (at0 l a) = true) (hhi : ∀ t, i ≤ t → t < b → lt (at0 l t) (at0 l a) = false) : Sd lt (upF l a (i - 1 - a)) a b := by
  have E := fun k => upF_at (l := l) (a := a) (n := i - 1 - a) (by omega) k
  intro x y hx hxy hy
  rw [E x, E y]
  by_cases c1 : a ≤ y ∧ y < a + (i - 1 - a)
  · rw [if_pos c1, if_pos (by omega)]
    exact h _ _ (by omega) (by omega) (by omega)
  · rw [if_neg c1]
    by_cases c2 : y = a + (i - 1 - a)
    · rw [if_pos c2, if_pos (by omega)]
      exact hO.asym _ _ (at0_D hD (by omega)) (at0_D hD (by omega)) (hlo _ (by omega) (by omega))
    · rw [if_neg c2]
      by_cases c3 : a ≤ x ∧ x < a + (i - 1 - a)
      · rw [if_pos c3]
        exact h _ _ (by omega) (by omega) (by omega)
      · rw [if_neg c3]
        by_cases c4 : x = a + (i - 1 - a)
        · rw [if_pos c4]
          exact hhi _ (by omega) (by omega)
        · rw [if_neg c4]
          exact h _ _ (by omega) (by omega) (by omega)
/-- One element put into a sorted range from the right. -/
theorem sd_dn (hO : OrdOn D lt) (hD : ∀ x ∈ l, D x) (hm : m < l.length) (h : Sd lt l a m) {i : Nat} (h1 : a ≤ i) (h2 : i ≤ m)
    (hlo : ∀ t, a ≤ t → t < i → lt (at0 l m) (at0 l t) = false) (hhi : ∀ t, i ≤ t → t < m → lt (at0 l m) (at0 l t) = true) : Sd lt (dnF l m (m - i)) a (m + 1) := by
  have E := fun k => dnF_at (l := l) (b := m) hm (n := m - i) (by omega) k
  intro x y hx hxy hy
  rw [E x, E y]
  by_cases c1 : m - (m - i) < x ∧ x ≤ m
  · rw [if_pos c1, if_pos (by omega)]
    exact h _ _ (by omega) (by omega) (by omega)
  · rw [if_neg c1]
    by_cases c2 : x = m - (m - i)
    · rw [if_pos c2, if_pos (by omega)]
      exact hO.asym _ _ (at0_D hD (by omega)) (at0_D hD (by omega)) (hhi _ (by omega) (by omega))
    · rw [if_neg c2]
      by_cases c3 : m - (m - i) < y ∧ y ≤ m
      · rw [if_pos c3]
        exact h _ _ (by omega) (by omega) (by omega)
      · rw [if_neg c3]
        by_cases c4 : y = m - (m - i)
        · rw [if_pos c4]
          exact hlo _ (by omega) (by omega)
        · rw [if_neg c4]
          exact h _ _ (by omega) (by omega) (by omega)

/-- Where symMerge looks first, and what it finds. -/
structure Cut (lt : Pt → Pt → Bool) (l : List Pt) (a m b s : Nat) : Prop where
  lo : a ≤ s
  sm : s ≤ m
  smid : s ≤ (a + b) / 2
  eb : (a + b) / 2 + m - s ≤ b
  left : ∀ t, a ≤ t → t < s → (a + b) / 2 + m - s < b → lt (at0 l ((a + b) / 2 + m - s)) (at0 l t) = false
  right : ∀ t, s ≤ t → t < m → m ≤ (a + b) / 2 + m - 1 - s → (a + b) / 2 + m - 1 - s < b → lt (at0 l ((a + b) / 2 + m - 1 - s)) (at0 l t) = true
theorem cut_of (hO : OrdOn D lt) (hD : ∀ x ∈ l, D x) (hb : b ≤ l.length) (ham : a < m) (hmb : m < b) (hl : Sd lt l a m) (hr : Sd lt l m b) {lo hi : Nat}
    (hlh : lo = (if (a + b) / 2 < m then (a + b) / 2 + m - b else a) ∧ hi = (if (a + b) / 2 < m then (a + b) / 2 else m)) (h1 : lo ≤ s) (h2 : s ≤ hi)
    (hf : lo < s → lt (at0 l ((a + b) / 2 + m - 1 - (s - 1))) (at0 l (s - 1)) = false) (ht : s < hi → lt (at0 l ((a + b) / 2 + m - 1 - s)) (at0 l s) = true) : Cut lt l a m b s := by
  have b1 : a ≤ lo ∧ hi ≤ m ∧ hi ≤ (a + b) / 2 ∧ (a + b) / 2 + m ≤ b + lo := by
    obtain ⟨e1, e2⟩ := hlh
    split at e1 <;> split at e2 <;> omega
  refine ⟨by omega, by omega, by omega, by omega, fun t t1 t2 t3 => ?_, fun t t1 t2 t3 t4 => ?_⟩
  · have hlos : lo < s := by
      obtain ⟨e1, e2⟩ := hlh
      split at e1 <;> split at e2 <;> omega
    have f := hf hlos
    have e : (a + b) / 2 + m - 1 - (s - 1) = (a + b) / 2 + m - s := by omega
    rw [e] at f
    have g := hl.le hO hD (by omega) (i := t) (j := s - 1) t1 (by omega) (by omega)
    exact hO.ntrans _ _ _ (at0_D hD (by omega)) (at0_D hD (by omega)) (at0_D hD (by omega)) g f
  · have hhi : s < hi := by
      obtain ⟨e1, e2⟩ := hlh
      split at e1 <;> split at e2 <;> omega
    have f := ht hhi
    have g := hl.le hO hD (by omega) (i := s) (j := t) (by omega) t1 t2
    exact hO.trans (at0_D hD (by omega)) (at0_D hD (by omega)) (at0_D hD (by omega)) f g
theorem Cut.sorted (hO : OrdOn D lt) (hD : ∀ x ∈ l, D x) (hb : b ≤ l.length) (ham : a < m) (hmb : m < b) (hl : Sd lt l a m) (hr : Sd lt l m b) (h : Cut lt l a m b s) {l' : List Pt} (hR : Rot l l' s m ((a + b) / 2 + m - s)) :
    Sd lt l' a s ∧ Sd lt l' s ((a + b) / 2) ∧ Sd lt l' ((a + b) / 2) ((a + b) / 2 + m - s) ∧ Sd lt l' ((a + b) / 2 + m - s) b ∧ ∀ i j, a ≤ i → i < (a + b) / 2 → (a + b) / 2 ≤ j → j < b → lt (at0 l' j) (at0 l' i) = false := by
  obtain ⟨q1, q2, q3, q4, q5, q6⟩ := h
  generalize hmid : (a + b) / 2 = mid at *
  have hmm : s ≤ m ∧ m ≤ mid + m - s := by omega
  have he1 : mid + m - 1 - s = mid + m - s - 1 := by omega
  rw [he1] at q6
  generalize he : mid + m - s = e at *
  have k1 : ∀ k, k < s → at0 l' k = at0 l k := fun k hk => by rw [hR k, if_pos (by omega)]
  have k2 : ∀ k, e ≤ k → at0 l' k = at0 l k := fun k hk => by rw [hR k, if_pos (by omega)]
  have k3 : ∀ k, s ≤ k → k < mid → at0 l' k = at0 l (k + (m - s)) := fun k h1 h2 => by rw [hR k, if_neg (by omega), if_pos (by omega)]
  have k4 : ∀ k, mid ≤ k → k < e → at0 l' k = at0 l (k - (e - m)) := fun k h1 h2 => by rw [hR k, if_neg (by omega), if_neg (by omega)]
  refine ⟨fun i j h1 h2 h3 => ?_, fun i j h1 h2 h3 => ?_, fun i j h1 h2 h3 => ?_, fun i j h1 h2 h3 => ?_, fun i j h1 h2 h3 h4 => ?_⟩
  · rw [k1 i (by omega), k1 j h3]; exact hl i j h1 h2 (by omega)
  · rw [k3 i h1 (by omega), k3 j (by omega) h3]; exact hr _ _ (by omega) (by omega) (by omega)
  · rw [k4 i h1 (by omega), k4 j (by omega) h3]; exact hl _ _ (by omega) (by omega) (by omega)
  · rw [k2 i h1, k2 j (by omega)]; exact hr _ _ (by omega) (by omega) h3
  · by_cases ci : i < s
    · rw [k1 i ci]
      by_cases cj : j < e
      · rw [k4 j h3 cj]; exact hl _ _ h1 (by omega) (by omega)
      · rw [k2 j (by omega)]
        have f := q5 i h1 ci (by omega)
        have g := hr.le hO hD hb (i := e) (j := j) (by omega) (by omega) h4
        exact hO.ntrans _ _ _ (at0_D hD (by omega)) (at0_D hD (by omega)) (at0_D hD (by omega)) f g
    · rw [k3 i (by omega) h2]
      by_cases cj : j < e
      · rw [k4 j h3 cj]
        have f := q6 (j - (e - m)) (by omega) (by omega) (by omega) (by omega)
        have g := hr.le hO hD hb (i := i + (m - s)) (j := e - 1) (by omega) (by omega) (by omega)
        exact hO.asym _ _ (at0_D hD (by omega)) (at0_D hD (by omega)) (hO.trans' (at0_D hD (by omega)) (at0_D hD (by omega)) (at0_D hD (by omega)) g f)
      · rw [k2 j (by omega)]; exact hr _ _ (by omega) (by omega) h4
theorem sd_join {l1 : List Pt} {c : Nat} (h1 : Re l l1 a c) (h2 : Re l1 l' c b) (hac : a ≤ c) (hcb : c ≤ b) (s1 : Sd lt l1 a c) (s2 : Sd lt l' c b)
    (hx : ∀ i j, a ≤ i → i < c → c ≤ j → j < b → lt (at0 l j) (at0 l i) = false) : Sd lt l' a b := fun i j q1 q2 q3 => by
  by_cases ci : i < c
  · by_cases cj : j < c
    · rw [h2.out i (by omega), h2.out j (by omega)]; exact s1 i j q1 q2 cj
    · rw [h2.out i (by omega)]
      obtain ⟨i', i1, i2, e1⟩ := h1.inn i q1 ci
      obtain ⟨j', j1, j2, e2⟩ := h2.inn j (by omega) q3
      rw [e1, e2, h1.out j' (by omega)]
      exact hx _ _ i1 i2 j1 j2
  · exact s2 i j (by omega) q2 q3
end
end Go.Proofs.YtpbgimdbhgahkaaGreat
