/- Layer 16: the numbers that intervals hold, counted from the left; sliding. -/
import Derived.Test.YtbienlhofkfdpaaNof12
namespace Go.Proofs.Ytbienlhofkfdpaa
open Go.RowKit Go.Sort
set_option linter.unusedVariables false
set_option linter.unusedSimpArgs false

/-- How many numbers below x the intervals hold. -/
def cov (x : Int) : List (Int × Int) → Int
  | [] => 0
  | f :: r => max 0 (min f.2 (x - 1) - f.1 + 1) + cov x r
theorem cov_tot {x : Int} : ∀ {l : List (Int × Int)}, (∀ f ∈ l, f.1 ≤ f.2 ∧ f.2 < x) → cov x l = tot l
  | [], _ => rfl
  | f :: r, h => by
    have h1 := h f (by simp)
    rw [tot_cons, cov, cov_tot (l := r) fun g hg => h g (by simp [hg])]
    omega
theorem cov_zero {x : Int} : ∀ {l : List (Int × Int)}, (∀ f ∈ l, x ≤ f.1) → cov x l = 0
  | [], _ => rfl
  | f :: r, h => by
    have h1 := h f (by simp)
    rw [cov, cov_zero (l := r) fun g hg => h g (by simp [hg])]
    omega
theorem cov_out {x : Int} : ∀ {l : List (Int × Int)}, CanonI l → ¬ MemI x l → cov (x + 1) l = cov x l
  | [], _, _ => rfl
  | f :: r, ⟨h1, h2, h3⟩, h => by
    rw [memI_cons] at h
    rw [cov, cov, cov_out h3 fun q => h (.inr q)]
    have : ¬ (f.1 ≤ x ∧ x ≤ f.2) := fun q => h (.inl q)
    omega
theorem cov_in {x : Int} : ∀ {l : List (Int × Int)}, CanonI l → MemI x l → cov (x + 1) l = cov x l + 1
  | [], _, h => absurd h memI_nil
  | f :: r, ⟨h1, h2, h3⟩, h => by
    rw [memI_cons] at h
    rw [cov, cov]
    rcases h with h | h
    · rw [cov_zero (x := x + 1) (l := r) fun g hg => by (have := h2 g hg); omega, cov_zero (x := x) (l := r) fun g hg => by (have := h2 g hg); omega]
      omega
    · rw [cov_in h3 h]
      obtain ⟨g, hg, hb⟩ := h
      have := h2 g hg
      omega
theorem cov_nonneg (x : Int) : ∀ (l : List (Int × Int)), 0 ≤ cov x l
  | [] => Int.le_refl _
  | f :: r => by rw [cov]; have := cov_nonneg x r; omega
theorem cov_le_tot {x : Int} : ∀ {l : List (Int × Int)}, (∀ f ∈ l, f.1 ≤ f.2) → cov x l ≤ tot l
  | [], _ => Int.le_refl _
  | f :: r, h => by
    have h1 := h f (by simp)
    have := cov_le_tot (x := x) (l := r) fun g hg => h g (by simp [hg])
    rw [tot_cons, cov]
    omega
theorem canonI_lt : ∀ {l : List (Int × Int)}, CanonI l → ∀ {i j : Nat} (hi : i < j) (hj : j < l.length), (l[i]'(by omega)).2 + 1 < l[j].1
  | f :: r, ⟨h1, h2, h3⟩, 0, j + 1, _, hj => by
    simp only [List.getElem_cons_zero, List.getElem_cons_succ]
    exact h2 _ (List.getElem_mem _)
  | f :: r, ⟨h1, h2, h3⟩, i + 1, j + 1, hi, hj => by
    simp only [List.getElem_cons_succ]
    exact canonI_lt h3 (by omega) (by simpa using hj)
theorem memI_at {l : List (Int × Int)} (hc : CanonI l) {x : Int} {k : Nat} (hk : ∀ j (h : j < l.length), j < k → l[j].2 < x) (hn : ∀ h : k < l.length, x ≤ l[k].2) : MemI x l ↔ ∃ h : k < l.length, l[k].1 ≤ x := by
  constructor
  · rintro ⟨f, hf, h1, h2⟩
    obtain ⟨j, hj, rfl⟩ := List.getElem_of_mem hf
    by_cases q : j < k
    · have := hk j hj q; omega
    · by_cases e : j = k
      · subst e; exact ⟨hj, h1⟩
      · have := canonI_lt hc (show k < j by omega) hj
        have := hn (by omega)
        omega
  · rintro ⟨h, h1⟩
    exact ⟨_, List.getElem_mem h, h1, hn h⟩
/-- The rows ahead are empty, or the first vector is known. -/
theorem FirstV.hit {S : List (List Pt)} {lx hx y x : Int} {ys : List Int} {o : (Int × Int) × Bool} {l : List (Int × Int)} (h : FirstV S lx hx (y :: ys) o) (hl : RowV S y lx hx l) (hx' : MemI x l) (hn : ∀ x' < x, ¬ MemI x' l) : o = ((x, y), true) := by
  obtain ⟨l', h1, h2⟩ := h
  obtain rfl := h1.unique hl
  cases l' with
  | nil => exact absurd hx' memI_nil
  | cons p r =>
    have hc := hl.1
    have hp : MemI p.1 (p :: r) := ⟨p, by simp, Int.le_refl _, hc.1⟩
    have h3 : x ≤ p.1 := by
      by_cases q : p.1 < x
      · exact absurd hp (hn _ q)
      · omega
    have h4 : p.1 ≤ x := by
      obtain ⟨f, hf, f1, f2⟩ := hx'
      rcases List.mem_cons.1 hf with rfl | e
      · exact f1
      · have := hc.2.1 f e; have := hc.1; omega
    rw [h2, show p.1 = x by omega]
theorem FirstV.miss {S : List (List Pt)} {lx hx y : Int} {ys : List Int} {o : (Int × Int) × Bool} {l : List (Int × Int)} (h : FirstV S lx hx (y :: ys) o) (hl : RowV S y lx hx l) (hn : ∀ x, ¬ MemI x l) : FirstV S lx hx ys o := by
  obtain ⟨l', h1, h2⟩ := h
  obtain rfl := h1.unique hl
  cases l' with
  | nil => exact h2
  | cons p r => exact absurd ⟨p, by simp, Int.le_refl _, hl.1.1⟩ (hn p.1)

/-- The state of the rows: n are done. -/
structure OutI (S : List (List Pt)) (lx hx ly : Int) (N n : Nat) (o : (Int × Int) × Bool) (fd : Bool) (cnt : Int) : Prop where
  sum : CountV S lx hx (ysL ly n) cnt
  no : fd = false → FirstV S lx hx (ysL (ly + n) (N - n)) o
  yes : fd = true → o.2 = true
  lo : 0 ≤ cnt
  hi : cnt ≤ 16001 * n
/-- The state within a row. -/
structure InI (l : List (Int × Int)) (x : Int) (fd0 fd : Bool) (cnt0 cnt : Int) (o : (Int × Int) × Bool) : Prop where
  sum : cnt = cnt0 + cov x l
  no : fd = false → fd0 = false ∧ ∀ x', MemI x' l → x ≤ x'
  yes : fd = true → o.2 = true
theorem ysL_head (L : Int) (k : Nat) : ysL L (k + 1) = L :: ysL (L + 1) k := by
  have h := ysL_split (L := L) (k := 0) (n := k + 1) (by omega)
  rw [show ysL L 0 = [] from rfl, List.nil_append, show L + (0 : Nat) + 1 = L + 1 by omega, show k + 1 - 0 - 1 = k by omega, show L + ((0 : Nat) : Int) = L by omega] at h
  exact h
theorem OutI.start {S : List (List Pt)} {lx hx ly : Int} {N : Nat} {o : (Int × Int) × Bool} (h : FirstV S lx hx (ysL ly N) o) : OutI S lx hx ly N 0 o false 0 :=
  ⟨rfl, fun _ => by rw [show ly + ((0 : Nat) : Int) = ly by omega]; exact h, fun q => by (cases q), Int.le_refl _, by omega⟩
theorem InI.start {S : List (List Pt)} {lx hx ly : Int} {N n : Nat} {o : (Int × Int) × Bool} {fd : Bool} {cnt : Int} {l : List (Int × Int)} (h : OutI S lx hx ly N n o fd cnt) (hl : RowV S (ly + n) lx hx l) : InI l lx fd fd cnt cnt o :=
  ⟨by rw [cov_zero fun f hf => by have := (hl.2 f.1).1 ⟨f, hf, Int.le_refl _, hl.1.le f hf⟩; omega]; omega, fun q => ⟨q, fun x' hx' => by have := (hl.2 x').1 hx'; omega⟩, h.yes⟩
theorem InI.skip {l : List (Int × Int)} {x : Int} {fd0 fd : Bool} {cnt0 cnt : Int} {o : (Int × Int) × Bool} (h : InI l x fd0 fd cnt0 cnt o) (hl : CanonI l) (hn : ¬ MemI x l) : InI l (x + 1) fd0 fd cnt0 cnt o :=
  ⟨by rw [cov_out hl hn]; exact h.sum, fun q => ⟨(h.no q).1, fun x' hx' => by
    have h1 := (h.no q).2 x' hx'
    by_cases e : x' = x
    · subst e; exact absurd hx' hn
    · omega⟩, h.yes⟩
theorem InI.first {S : List (List Pt)} {lx hx ly : Int} {N n : Nat} {o : (Int × Int) × Bool} {fd0 : Bool} {cnt0 cnt : Int} {l : List (Int × Int)} {x : Int} (h : InI l x fd0 false cnt0 cnt o) (ho : OutI S lx hx ly N n o fd0 cnt0) (hl : RowV S (ly + n) lx hx l) (hn : n < N) (hx : MemI x l) : o = ((x, ly + n), true) := by
  obtain ⟨h1, h2⟩ := h.no rfl
  have h3 := ho.no h1
  rw [show N - n = N - n - 1 + 1 by omega, ysL_head] at h3
  exact h3.hit hl hx fun x' hx' hm => by have := h2 x' hm; omega
theorem InI.more {l : List (Int × Int)} {x : Int} {fd0 fd : Bool} {cnt0 cnt : Int} {o : (Int × Int) × Bool} (h : InI l x fd0 fd cnt0 cnt o) (hl : CanonI l) (hx : MemI x l) (ho : o.2 = true) : InI l (x + 1) fd0 true cnt0 (cnt + 1) o :=
  ⟨by rw [cov_in hl hx, h.sum]; omega, fun q => by (cases q), fun _ => ho⟩
theorem InI.fin {S : List (List Pt)} {lx hx ly : Int} {N n : Nat} {o : (Int × Int) × Bool} {fd0 fd : Bool} {cnt0 cnt : Int} {l : List (Int × Int)} {x : Int} (h : InI l x fd0 fd cnt0 cnt o) (ho : OutI S lx hx ly N n o fd0 cnt0) (hl : RowV S (ly + n) lx hx l) (hn : n < N) (hx2 : hx < x) : OutI S lx hx ly N (n + 1) o fd cnt := by
  have ht : cov x l = tot l := cov_tot fun f hf => ⟨hl.1.le f hf, by have := (hl.2 f.2).1 ⟨f, hf, hl.1.le f hf, Int.le_refl _⟩; omega⟩
  have hb := hl.tot
  refine ⟨?_, fun q => ?_, h.yes, ?_, ?_⟩
  · rw [ysL_succ, h.sum, ht]
    exact CountV.snoc hl ho.sum
  · obtain ⟨h1, h2⟩ := h.no q
    have h3 := ho.no h1
    rw [show N - n = N - (n + 1) + 1 by omega, ysL_head] at h3
    have h4 := h3.miss hl fun x' hm => by have := h2 x' hm; have := (hl.2 x').1 hm; omega
    rwa [show ly + ((n + 1 : Nat) : Int) = ly + n + 1 by omega]
  · rw [h.sum, ht]; have := ho.lo; omega
  · rw [h.sum, ht]; have := ho.hi; omega
theorem OutI.fin {S : List (List Pt)} {lx hx ly : Int} {N : Nat} {o : (Int × Int) × Bool} {fd : Bool} {cnt : Int} (h : OutI S lx hx ly N N o fd cnt) : o.2 = fd ∧ CountV S lx hx (ysL ly N) cnt := by
  refine ⟨?_, h.sum⟩
  cases fd
  · have := h.no rfl
    rw [Nat.sub_self] at this
    rw [show o = ((0, 0), false) from this]
  · exact h.yes rfl
theorem InI.bound {l : List (Int × Int)} {x : Int} {fd0 fd : Bool} {cnt0 cnt : Int} {o : (Int × Int) × Bool} (h : InI l x fd0 fd cnt0 cnt o) (hl : ∀ f ∈ l, f.1 ≤ f.2) : cnt0 ≤ cnt ∧ cnt ≤ cnt0 + tot l := by
  have h1 := cov_nonneg x l
  have h2 := cov_le_tot (x := x) hl
  have h3 := h.sum
  omega

/-- How far one can go: k0 steps are done, n are left. -/
def slideN (S : List (List Pt)) (dx dy : Int) : Nat → Int → Int → Int → Int
  | 0, k, _, _ => k
  | n + 1, k, x, y => if withinB (wadd x dx) (wadd y dy) 8000 && !forbB S (wadd x dx, wadd y dy) then slideN S dx dy n (k + 1) (wadd x dx) (wadd y dy) else k
theorem wadd_zero (x : Int) : wadd (wadd x 0) 0 = wadd x 0 := by
  unfold wadd wrap64
  omega
theorem slideN_rest (S : List (List Pt)) (x y : Int) : ∀ (n : Nat) (k : Int), withinB x y 8000 = true → forbB S (x, y) = false → wadd x 0 = x → wadd y 0 = y → slideN S 0 0 n k x y = k + n
  | 0, k, _, _, _, _ => by rw [slideN]; simp
  | n + 1, k, h1, h2, h3, h4 => by
    rw [slideN, h3, h4, h1, h2]
    simp only [Bool.not_false, Bool.and_self, if_true]
    rw [slideN_rest S x y n (k + 1) h1 h2 h3 h4]
    omega
end Go.Proofs.Ytbienlhofkfdpaa
