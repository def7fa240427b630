/- Layer 46 (plain): valid rings, as the program and as the reference ask for them. -/
import Derived.Test.YtkpnffokjpgalaaGreatKJntP3
import Derived.Test.YtkpnffokjpgalaaGreatKJntP1
namespace Go.Proofs.YtkpnffokjpgalaaGreat
set_option linter.unusedVariables false
set_option linter.unusedSimpArgs false

section
variable {a b c : Pt}
/-- Edges that follow each other and turn have one end in common. -/
theorem adj_touch (h : det a b c ≠ 0) : (meetK a b b c).1 = 1 := by
  unfold meetK
  have e1 : cr4 a b b c = det a b c := by unfold cr4 det; grind
  have e2 : det b c a = det a b c := by unfold det; grind
  have e3 : det a b b = 0 := by unfold det; grind
  rw [if_pos (by rw [e1]; exact h), e1, e2, e3]
  have hb : btwB (det a b c) (det a b c) = true := by unfold btwB; simp only [decide_eq_true_eq]; omega
  have hz : btwB (-0) (det a b c) = true := by unfold btwB; simp only [decide_eq_true_eq]; omega
  rw [hb, hz]
  simp
theorem adj_touch_last (h : det a b c ≠ 0) : (meetK a b c a).1 = 1 := by
  unfold meetK
  have e1 : cr4 a b c a = -det a b c := by unfold cr4 det; grind
  have e2 : det c a a = 0 := by unfold det; grind
  rw [if_pos (by rw [e1]; omega), e1, e2]
  have hb : btwB (-det a b c) (-det a b c) = true := by unfold btwB; simp only [decide_eq_true_eq]; omega
  have hz : btwB 0 (-det a b c) = true := by unfold btwB; simp only [decide_eq_true_eq]; omega
  rw [hb, hz]
  simp
end
/-- The doubled area of a ring. -/
def area2V (r : List Pt) : Int := ((List.range r.length).map (fun i => (at0 r i).1 * (rv r (i + 1)).2 - (at0 r i).2 * (rv r (i + 1)).1)).sum
def nearR (r : List Pt) : Bool := r.all (fun p => withinB p.1 p.2 2000)
/-- Two edges of a ring, neither of which follows the other. -/
def farE (n i k : Nat) : Prop := i < k ∧ k ≠ i + 1 ∧ (i ≠ 0 ∨ k ≠ n - 1)
/-- A valid ring. -/
structure IsOk (r : List Pt) : Prop where
  three : 3 ≤ r.length
  most : r.length ≤ 40
  near : ∀ p ∈ r, withinB p.1 p.2 2000 = true
  turn : ∀ i, i < r.length → det (at0 r i) (rv r (i + 1)) (rv r (i + 2)) ≠ 0
  far : ∀ i k, k < r.length → farE r.length i k → (meetK (at0 r i) (rv r (i + 1)) (at0 r k) (rv r (k + 1))).1 = 0
  area : 0 < area2V r
theorem rv_wrap (r : List Pt) (i : Nat) : rv r (i + r.length) = rv r i := by unfold rv; rw [Nat.add_mod_right]
theorem at0_near {r : List Pt} (h : ∀ p ∈ r, withinB p.1 p.2 2000 = true) {i : Nat} (hi : i < r.length) : near4 (at0 r i) := by
  have := h _ (at0_mem hi)
  unfold withinB at this
  rw [wneg_in (x := 2000) (by omega)] at this
  simp only [Bool.and_eq_true, decide_eq_true_eq] at this
  unfold near4
  omega
theorem rv_near {r : List Pt} (h : ∀ p ∈ r, withinB p.1 p.2 2000 = true) (h0 : 0 < r.length) (i : Nat) : near4 (rv r i) := at0_near h (Nat.mod_lt _ h0)
/-- The turn at a vertex, as the program asks for it, and as the reference does. -/
theorem turns_around {r : List Pt} (h3 : 3 ≤ r.length) : (∀ i, i < r.length → det (rv r (i + r.length - 1)) (at0 r i) (rv r (i + 1)) ≠ 0) ↔ ∀ i, i < r.length → det (at0 r i) (rv r (i + 1)) (rv r (i + 2)) ≠ 0 := by
  constructor
  · intro h i hi
    by_cases hl : i + 1 < r.length
    · have := h (i + 1) hl
      rw [show i + 1 + r.length - 1 = i + r.length by omega, rv_wrap, rv_lt hi] at this
      rw [rv_lt hl]
      exact this
    · have e : i = r.length - 1 := by omega
      have := h 0 (by omega)
      rw [show 0 + r.length - 1 = i by omega, rv_lt hi, ← rv_lt (show 0 < r.length by omega), show 0 = i + 1 - r.length by omega] at this
      rw [← rv_wrap r (i + 1 - r.length), ← rv_wrap r (i + 1 - r.length + 1), show i + 1 - r.length + r.length = i + 1 by omega, show i + 1 - r.length + 1 + r.length = i + 2 by omega] at this
      exact this
  · intro h i hi
    rcases Nat.eq_zero_or_pos i with e | e
    · subst e
      have := h (r.length - 1) (by omega)
      rw [show r.length - 1 + 1 = 0 + r.length by omega, show r.length - 1 + 2 = 1 + r.length by omega, rv_wrap, rv_wrap] at this
      rw [show 0 + r.length - 1 = r.length - 1 by omega, rv_lt (show r.length - 1 < r.length by omega), ← rv_lt (show 0 < r.length by omega)]
      exact this
    · have := h (i - 1) (by omega)
      rw [show i - 1 + 1 = i by omega, show i - 1 + 2 = i + 1 by omega, rv_lt hi] at this
      rw [show i + r.length - 1 = i - 1 + r.length by omega, rv_wrap, rv_lt (show i - 1 < r.length by omega)]
      exact this
/-- The reference's rule for a pair of edges. -/
def pairR (r : List Pt) (i k : Nat) : Prop := if k = i + 1 ∨ i = 0 ∧ k = r.length - 1 then (meetK (at0 r i) (rv r (i + 1)) (at0 r k) (rv r (k + 1))).1 = 1 else (meetK (at0 r i) (rv r (i + 1)) (at0 r k) (rv r (k + 1))).1 = 0
theorem IsOk.pair {r : List Pt} (h : IsOk r) {i k : Nat} (hk : k < r.length) (hik : i < k) : pairR r i k := by
  have h3 := h.three
  unfold pairR
  split
  · rename_i e
    by_cases e1 : k = i + 1
    · subst e1
      rw [← rv_lt hk]
      exact adj_touch (h.turn i (by omega))
    · obtain ⟨e2, e3⟩ : i = 0 ∧ k = r.length - 1 := by omega
      subst e2
      have ek : rv r (k + 1) = at0 r 0 := by rw [show k + 1 = 0 + r.length by omega, rv_wrap, rv_lt (by omega)]
      rw [ek]
      apply adj_touch_last
      have := h.turn k (by omega)
      rw [ek, show k + 2 = 1 + r.length by omega, rv_wrap] at this
      intro hz
      apply this
      rw [← hz]
      unfold det
      grind
  · rename_i e
    exact h.far i k hk ⟨hik, fun h => e (.inl h), by omega⟩
theorem isOk_of {r : List Pt} (h3 : 3 ≤ r.length) (hm : r.length ≤ 40) (hn : ∀ p ∈ r, withinB p.1 p.2 2000 = true) (ht : ∀ i, i < r.length → det (at0 r i) (rv r (i + 1)) (rv r (i + 2)) ≠ 0)
    (hp : ∀ i k, k < r.length → i < k → pairR r i k) (ha : 0 < area2V r) : IsOk r := by
  refine ⟨h3, hm, hn, ht, fun i k hk hf => ?_, ha⟩
  have := hp i k hk hf.1
  unfold pairR at this
  rw [if_neg (by unfold farE at hf; omega)] at this
  exact this
/-- An edge is no point. -/
theorem IsOk.ne {r : List Pt} (h : IsOk r) {i : Nat} (hi : i < r.length) : at0 r i ≠ rv r (i + 1) := by
  intro e
  apply h.turn i hi
  rw [← e]
  unfold det
  grind
end Go.Proofs.YtkpnffokjpgalaaGreat
/- Layer 46 (plain): stretches of one line. -/
namespace Go.Proofs.YtkpnffokjpgalaaGreat
set_option linter.unusedVariables false
set_option linter.unusedSimpArgs false

/-- The point of a line behind some steps. -/
def ptK (a v : Pt) (k : Int) : Pt := (a.1 + v.1 * k, a.2 + v.2 * k)
theorem pointK_pt (a b : Pt) (k : Int) : pointK a b k = ptK a (dirK a b) k := rfl
theorem key_pt (a v : Pt) (k : Int) : key (ptK a v k) = key a + key v * k := by unfold key ptK; grind
section
variable {a v : Pt}
theorem key_lt_pt (k l : Int) : key (ptK a v k) < key (ptK a v l) ↔ (0 < key v ∧ k < l) ∨ (key v < 0 ∧ l < k) := by
  rw [key_pt, key_pt]
  have e : (key a + key v * k < key a + key v * l) ↔ 0 < key v * (l - k) := by rw [Int.mul_sub]; omega
  rw [e]
  constructor
  · intro h
    rcases Int.lt_trichotomy (key v) 0 with hv | hv | hv
    · refine .inr ⟨hv, ?_⟩
      have h2 : 0 < (-key v) * (k - l) := by rw [Int.neg_mul, ← Int.mul_neg]; rw [show -(k - l) = l - k by omega]; exact h
      have := pos_of_mul (by omega) h2
      omega
    · rw [hv, Int.zero_mul] at h; omega
    · have := pos_of_mul hv h
      exact .inl ⟨hv, by omega⟩
  · rintro (⟨hv, hk⟩ | ⟨hv, hk⟩)
    · exact Int.mul_pos hv (by omega)
    · exact Int.mul_pos_of_neg_of_neg hv (by omega)
theorem mn_pt (h : 0 < key v) (k l : Int) : mnK (ptK a v k) (ptK a v l) = ptK a v (imin k l) ∧ mxK (ptK a v k) (ptK a v l) = ptK a v (imax k l) := by
  unfold mnK mxK imin imax
  simp only [key_lt_pt]
  constructor <;> split <;> split <;> first | rfl | omega
theorem mn_pt' (h : key v < 0) (k l : Int) : mnK (ptK a v k) (ptK a v l) = ptK a v (imax k l) ∧ mxK (ptK a v k) (ptK a v l) = ptK a v (imin k l) := by
  unfold mnK mxK imin imax
  simp only [key_lt_pt]
  constructor <;> split <;> split <;> first | rfl | omega
theorem key_eq_pt (h : key v ≠ 0) (k l : Int) : key (ptK a v k) = key (ptK a v l) ↔ k = l := by
  constructor
  · intro e
    have h1 := @key_lt_pt a v k l
    have h2 := @key_lt_pt a v l k
    omega
  · rintro rfl; rfl
theorem pt_inj (h : key v ≠ 0) {k l : Int} (e : ptK a v k = ptK a v l) : k = l := (key_eq_pt h k l).1 (by rw [e])
theorem cr4_pt (x y i j : Int) : cr4 (ptK a v x) (ptK a v y) (ptK a v i) (ptK a v j) = 0 := by unfold cr4 ptK; grind
theorem det_pt (x y i : Int) : det (ptK a v x) (ptK a v y) (ptK a v i) = 0 := by unfold det ptK; grind
/-- The share of two stretches of a line. -/
def loI (x y i j : Int) : Int := imax (imin x y) (imin i j)
def hiI (x y i j : Int) : Int := imin (imax x y) (imax i j)
theorem line_meet (h : key v ≠ 0) {x y i j : Int} (hxy : x ≠ y) (hij : i ≠ j) :
    (meetK (ptK a v x) (ptK a v y) (ptK a v i) (ptK a v j)).1 = (if loI x y i j = hiI x y i j then 1 else if loI x y i j < hiI x y i j then 3 else 0) ∧
    (loI x y i j < hiI x y i j → (meetK (ptK a v x) (ptK a v y) (ptK a v i) (ptK a v j)).2 = if 0 < key v then (ptK a v (loI x y i j), ptK a v (hiI x y i j)) else (ptK a v (hiI x y i j), ptK a v (loI x y i j))) := by
  have n1 : ptK a v x ≠ ptK a v y := fun e => hxy (pt_inj h e)
  have n2 : ptK a v i ≠ ptK a v j := fun e => hij (pt_inj h e)
  unfold meetK
  rw [if_neg (by rw [cr4_pt]; simp), if_neg (fun e => n1 e.1), if_neg (fun e => n2 e.1), if_neg (by rw [det_pt]; intro e; rcases e with e | e | e; exact n1 e; exact n2 e; exact e rfl)]
  unfold loK hiK
  rcases Int.lt_or_lt_of_ne h with hv | hv
  · rw [(mn_pt' hv x y).1, (mn_pt' hv x y).2, (mn_pt' hv i j).1, (mn_pt' hv i j).2, (mn_pt' hv _ _).1, (mn_pt' hv _ _).2]
    simp only [key_eq_pt h, key_lt_pt]
    change _ = _ ∧ _
    rw [show imin (imax x y) (imax i j) = hiI x y i j from rfl, show imax (imin x y) (imin i j) = loI x y i j from rfl]
    generalize loI x y i j = L; generalize hiI x y i j = H
    rw [if_neg (show ¬ 0 < key v by omega)]
    rcases Int.lt_trichotomy L H with e | e | e
    · rw [if_neg (show ¬ H = L by omega), if_pos (.inr ⟨hv, e⟩), if_neg (show ¬ L = H by omega), if_pos e]; exact ⟨rfl, fun _ => rfl⟩
    · rw [if_pos e.symm, if_pos e]; exact ⟨rfl, by omega⟩
    · rw [if_neg (show ¬ H = L by omega), if_neg (by omega), if_neg (show ¬ L = H by omega), if_neg (by omega)]; exact ⟨rfl, by omega⟩
  · rw [(mn_pt hv x y).1, (mn_pt hv x y).2, (mn_pt hv i j).1, (mn_pt hv i j).2, (mn_pt hv _ _).1, (mn_pt hv _ _).2]
    simp only [key_eq_pt h, key_lt_pt]
    rw [show imin (imax x y) (imax i j) = hiI x y i j from rfl, show imax (imin x y) (imin i j) = loI x y i j from rfl]
    generalize loI x y i j = L; generalize hiI x y i j = H
    rw [if_pos hv]
    rcases Int.lt_trichotomy L H with e | e | e
    · rw [if_neg (show ¬ L = H by omega), if_pos (.inl ⟨hv, e⟩), if_neg (show ¬ L = H by omega), if_pos e]; exact ⟨rfl, fun _ => rfl⟩
    · rw [if_pos e, if_pos e]; exact ⟨rfl, by omega⟩
    · rw [if_neg (show ¬ L = H by omega), if_neg (by omega), if_neg (show ¬ L = H by omega), if_neg (by omega)]; exact ⟨rfl, by omega⟩
end
section
variable {a b c d : Pt}
/-- Segments that overlap lie on one line. -/
theorem over_line (h : (meetK a b c d).1 = 3) : cr4 a b c d = 0 ∧ a ≠ b ∧ c ≠ d ∧ det a b c = 0 := by
  unfold meetK at h
  split at h
  · split at h
    · split at h <;> simp at h
    · simp at h
  · rename_i h0
    split at h
    · simp at h
    · split at h
      · simp at h
      · split at h
        · simp at h
        · rename_i h3
          refine ⟨Classical.byContradiction h0, fun e => h3 (.inl e), fun e => h3 (.inr (.inl e)), Classical.byContradiction fun e => h3 (.inr (.inr e))⟩
theorem dirK_key (h : a ≠ b) (ha : near4 a) (hb : near4 b) : key (dirK a b) ≠ 0 := by
  intro e
  apply h
  apply (key_inj ha hb).1
  obtain ⟨e1, e2⟩ := dirK_mul a b
  have : key b - key a = key (dirK a b) * stepsK a b := by
    unfold key
    rw [Int.add_mul, Int.mul_assoc, e1, e2]
    omega
  rw [e, Int.zero_mul] at this
  omega
theorem pointK_0 (a b : Pt) : pointK a b 0 = a := by unfold pointK; simp
theorem pointK_steps (a b : Pt) : pointK a b (stepsK a b) = b := by
  obtain ⟨e1, e2⟩ := dirK_mul a b
  unfold pointK
  rw [e1, e2]
  exact Prod.ext (by simp only; omega) (by simp only; omega)
/-- Two segments lie on one line, or neither they nor any steps of the first overlap with the second. -/
theorem line_or (hab : a ≠ b) (hcd : c ≠ d) : (∃ i j : Int, i ≠ j ∧ c = pointK a b i ∧ d = pointK a b j) ∨ ∀ x y : Int, x ≠ y → (meetK (pointK a b x) (pointK a b y) c d).1 ≠ 3 := by
  by_cases h : cr4 a b c d = 0 ∧ det a b c = 0
  · obtain ⟨i, hi⟩ := line_pt hab h.2
    have : det a b d = 0 := by rw [det_b, h.1, h.2]; rfl
    obtain ⟨j, hj⟩ := line_pt hab this
    exact .inl ⟨i, j, fun e => hcd (by rw [hi, hj, e]), hi, hj⟩
  · refine .inr fun x y hxy h3 => h ?_
    obtain ⟨e1, -, -, e2⟩ := over_line h3
    have hg := stepsK_pos hab
    obtain ⟨g1, g2⟩ := dirK_mul a b
    unfold pointK at e1 e2
    generalize dirK a b = w at *
    generalize stepsK a b = g at *
    have c1 : (y - x) * (w.1 * (d.2 - c.2) - w.2 * (d.1 - c.1)) = 0 := by unfold cr4 at e1; grind
    have c2 : (y - x) * (w.1 * (c.2 - a.2) - w.2 * (c.1 - a.1)) = 0 := by unfold det at e2; grind
    have c1 := (Int.mul_eq_zero.1 c1).resolve_left (by omega)
    have c2 := (Int.mul_eq_zero.1 c2).resolve_left (by omega)
    constructor
    · unfold cr4; rw [← g1, ← g2]; grind
    · unfold det; rw [← g1, ← g2]; grind
end
end Go.Proofs.YtkpnffokjpgalaaGreat
/- Layer 46 (plain): what a segment covers of another, in steps; the runs that are left. -/
namespace Go.Proofs.YtkpnffokjpgalaaGreat
set_option linter.unusedVariables false
set_option linter.unusedSimpArgs false

/-- A segment that is no point and lies within the limits. -/
def IsSegN (s : Pt × Pt) : Prop := s.1 ≠ s.2 ∧ near4 s.1 ∧ near4 s.2
/-- A step of a segment overlaps with another one. -/
def stepOver (s o : Pt × Pt) (n : Int) : Prop := (meetK (pointK s.1 s.2 n) (pointK s.1 s.2 (n + 1)) o.1 o.2).1 = 3
def placesK (s c : Pt × Pt) : Int × Int := (imin (placeK s.1 s.2 c.1) (placeK s.1 s.2 c.2), imax (placeK s.1 s.2 c.1) (placeK s.1 s.2 c.2))
/-- What another segment covers, in steps. -/
def covK (s o : Pt × Pt) : Option (Int × Int) := if (meetK s.1 s.2 o.1 o.2).1 = 3 then some (placesK s (meetK s.1 s.2 o.1 o.2).2) else none
theorem cov_is {s o : Pt × Pt} (hs : IsSegN s) (ho : IsSegN o) :
    (∃ x y, covK s o = some (x, y) ∧ 0 ≤ x ∧ x < y ∧ y ≤ stepsK s.1 s.2 ∧ ∀ n, 0 ≤ n → n < stepsK s.1 s.2 → (stepOver s o n ↔ x ≤ n ∧ n < y)) ∨
    (covK s o = none ∧ ∀ n, 0 ≤ n → n < stepsK s.1 s.2 → ¬ stepOver s o n) := by
  have hk := dirK_key hs.1 hs.2.1 hs.2.2
  have hg := stepsK_pos hs.1
  rcases line_or hs.1 ho.1 with ⟨i, j, hij, hi, hj⟩ | h
  · have e := line_meet (a := s.1) hk (x := 0) (y := stepsK s.1 s.2) (i := i) (j := j) (by omega) hij
    simp only [← pointK_pt, pointK_0, pointK_steps, ← hi, ← hj] at e
    have st : ∀ n, stepOver s o n ↔ imin i j ≤ n ∧ n < imax i j := by
      intro n
      have e := (line_meet (a := s.1) hk (x := n) (y := n + 1) (i := i) (j := j) (by omega) hij).1
      simp only [← pointK_pt, ← hi, ← hj] at e
      unfold stepOver
      rw [e]
      have : loI n (n + 1) i j < hiI n (n + 1) i j ↔ imin i j ≤ n ∧ n < imax i j := by
        unfold loI hiI imax imin
        split <;> split <;> split <;> split <;> (try split) <;> (try split) <;> omega
      rw [← this]
      generalize loI n (n + 1) i j = L; generalize hiI n (n + 1) i j = H
      split
      · simp; omega
      · split
        · simp; omega
        · simp; omega
    generalize hL : loI 0 (stepsK s.1 s.2) i j = L at e
    generalize hH : hiI 0 (stepsK s.1 s.2) i j = H at e
    have lh : ∀ n, 0 ≤ n → n < stepsK s.1 s.2 → ((imin i j ≤ n ∧ n < imax i j) ↔ L ≤ n ∧ n < H) := by
      intro n h0 h1
      rw [← hL, ← hH]
      unfold loI hiI imax imin
      split <;> split <;> (try split) <;> (try split) <;> (try split) <;> (try split) <;> omega
    have l0 : 0 ≤ L ∧ H ≤ stepsK s.1 s.2 := by
      rw [← hL, ← hH]
      unfold loI hiI imax imin
      constructor <;> split <;> split <;> (try split) <;> omega
    by_cases hLH : L < H
    · refine .inl ⟨L, H, ?_, l0.1, hLH, l0.2, fun n h0 h1 => by rw [st n, lh n h0 h1]⟩
      unfold covK placesK
      have e3 : (meetK s.1 s.2 o.1 o.2).1 = 3 := by rw [e.1, if_neg (show ¬ L = H by omega), if_pos hLH]
      rw [if_pos e3, e.2 hLH]
      split
      · simp only [place_point hs.1]
        rw [show imin L H = L by unfold imin; split <;> omega, show imax L H = H by unfold imax; split <;> omega]
      · simp only [place_point hs.1]
        rw [show imin H L = L by unfold imin; split <;> omega, show imax H L = H by unfold imax; split <;> omega]
    · refine .inr ⟨?_, fun n h0 h1 => by rw [st n, lh n h0 h1]; omega⟩
      unfold covK
      rw [if_neg]
      rw [e.1]
      rw [if_neg hLH]
      split <;> simp
  · refine .inr ⟨?_, fun n h0 h1 => h n (n + 1) (by omega)⟩
    unfold covK
    rw [if_neg]
    have := h 0 (stepsK s.1 s.2) (by omega)
    rw [pointK_0, pointK_steps] at this
    exact this
/-- The parts that are left, behind a place. -/
def runL : Int → List (Int × Int) → List (Int × Int)
  | _, [] => []
  | at_, c :: l => (if at_ < c.1 then [(at_, c.1)] else []) ++ runL (imax at_ c.2) l
def setB (l : List (Int × Int)) (y : Int) : List (Int × Int) := match l.getLast? with
  | none => l
  | some c => l.dropLast ++ [(c.1, y)]
theorem setB_push (l : List (Int × Int)) (x y z : Int) : setB (l ++ [(x, y)]) z = l ++ [(x, z)] := by
  unfold setB
  simp
/-- The reference's loop over the steps. -/
def stR (U : Nat → Bool) : Nat → Bool × List (Int × Int)
  | 0 => (false, [])
  | n + 1 => if U n = false then (false, (stR U n).2) else if (stR U n).1 = true then (true, setB (stR U n).2 ((n : Int) + 1)) else (true, (stR U n).2 ++ [((n : Int), (n : Int) + 1)])
theorem block_cov {U : Nat → Bool} {x : Nat} : ∀ {y : Nat}, x < y → (∀ n, x ≤ n → n < y → U n = false) → stR U y = (false, (stR U x).2) := by
  intro y
  induction y with
  | zero => intro h; omega
  | succ y ih =>
    intro h hU
    rw [stR, if_pos (hU y (by omega) (by omega))]
    by_cases e : x = y
    · rw [e]
    · rw [ih (by omega) (fun n h0 h1 => hU n h0 (by omega))]
theorem block_free {U : Nat → Bool} {x : Nat} (h0 : (stR U x).1 = false) : ∀ {y : Nat}, x < y → (∀ n, x ≤ n → n < y → U n = true) → stR U y = (true, (stR U x).2 ++ [((x : Int), (y : Int))]) := by
  intro y
  induction y with
  | zero => intro h; omega
  | succ y ih =>
    intro h hU
    rw [stR, if_neg (by rw [hU y (by omega) (by omega)]; simp)]
    by_cases e : x = y
    · subst e
      rw [if_neg (by rw [h0]; simp)]
      simp
    · rw [ih (by omega) (fun n h0 h1 => hU n h0 (by omega)), if_pos rfl, setB_push]
      simp
theorem runs_eq {U : Nat → Bool} {S : Nat} : ∀ (l : List (Int × Int)) (x : Nat), l.Pairwise (fun c d => c.1 ≤ d.1) → (∀ c ∈ l, 0 ≤ c.1 ∧ c.1 < c.2 ∧ c.2 ≤ S) → (stR U x).1 = false → x ≤ S →
    (∀ n : Nat, x ≤ n → n < S → (U n = false ↔ ∃ c ∈ l, c.1 ≤ (n : Int) ∧ (n : Int) < c.2)) → (stR U S).2 = (stR U x).2 ++ runL x (l ++ [((S : Int), (S : Int))]) := by
  intro l
  induction l with
  | nil =>
    intro x _ _ h0 hx hU
    rw [List.nil_append, runL, runL, List.append_nil]
    by_cases e : x = S
    · subst e; simp
    · rw [if_pos (by omega), block_free h0 (show x < S by omega) (fun n h1 h2 => by
        have := hU n h1 h2
        simp only [List.not_mem_nil, false_and, exists_false, iff_false] at this
        simpa using this)]
  | cons c l ih =>
    intro x hp hc h0 hx hU
    obtain ⟨hp1, hp2⟩ := List.pairwise_cons.1 hp
    obtain ⟨c0, c1, c2⟩ := hc c (by simp)
    have hc' : ∀ d ∈ l, 0 ≤ d.1 ∧ d.1 < d.2 ∧ d.2 ≤ S := fun d hd => hc d (by simp [hd])
    rw [List.cons_append, runL]
    have rest : ∀ y : Nat, c.2 ≤ y → x ≤ y → ∀ n : Nat, y ≤ n → n < S → (U n = false ↔ ∃ c ∈ l, c.1 ≤ (n : Int) ∧ (n : Int) < c.2) := by
      intro y h1 h2 n h3 h4
      rw [hU n (by omega) h4]
      constructor
      · rintro ⟨d, hd, h5, h6⟩
        rcases List.mem_cons.1 hd with e | e
        · subst e; omega
        · exact ⟨d, e, h5, h6⟩
      · rintro ⟨d, hd, h5, h6⟩; exact ⟨d, by simp [hd], h5, h6⟩
    obtain ⟨k1, hk1⟩ : ∃ k : Nat, c.1 = k := ⟨c.1.toNat, by omega⟩
    obtain ⟨k2, hk2⟩ : ∃ k : Nat, c.2 = k := ⟨c.2.toNat, by omega⟩
    rw [hk1, hk2]
    by_cases e1 : x < k1
    · have f1 := block_free h0 e1 (fun n h1 h2 => by
        rcases hn : U n with _ | _
        · obtain ⟨d, hd, h5, h6⟩ := (hU n h1 (by omega)).1 hn
          rcases List.mem_cons.1 hd with e | e
          · subst e; omega
          · have := hp1 d e; omega
        · rfl)
      have f2 := block_cov (U := U) (x := k1) (y := k2) (by omega) (fun n h1 h2 => (hU n (by omega) (by omega)).2 ⟨c, by simp, by omega, by omega⟩)
      rw [ih k2 hp2 hc' (by rw [f2]) (by omega) (rest k2 (by omega) (by omega)), f2, f1, if_pos (by omega), show imax (x : Int) (k2 : Int) = k2 by unfold imax; split <;> omega]
      simp
    · rw [if_neg (by omega), List.nil_append]
      by_cases e2 : k2 ≤ x
      · rw [show imax (x : Int) (k2 : Int) = x by unfold imax; split <;> omega]
        exact ih x hp2 hc' h0 hx (rest x (by omega) (by omega))
      · have f2 := block_cov (U := U) (x := x) (y := k2) (by omega) (fun n h1 h2 => (hU n (by omega) (by omega)).2 ⟨c, by simp, by omega, by omega⟩)
        rw [ih k2 hp2 hc' (by rw [f2]) (by omega) (rest k2 (by omega) (by omega)), f2, show imax (x : Int) (k2 : Int) = k2 by unfold imax; split <;> omega]
end Go.Proofs.YtkpnffokjpgalaaGreat
