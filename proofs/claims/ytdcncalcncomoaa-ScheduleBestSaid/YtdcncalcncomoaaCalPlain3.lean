/- Plain law of the calendar: what the laws say of finishing times. -/
import Derived.Test.YtdcncalcncomoaaCal7
namespace Go.Proofs.Ytdcncalcncomoaa
set_option linter.unusedVariables false

theorem found_cases (a : Int) (p : Nat → Bool) (n : Nat) : (∃ m : Nat, m < n ∧ foundV a p n = (a + m, 0) ∧ p m = true ∧ ∀ j, j < m → p j = false) ∨ (foundV a p n = (0, 8) ∧ ∀ j, j < n → p j = false) := by
  obtain ⟨h1, h2, h3⟩ := least_spec p n
  unfold foundV
  by_cases hlt : least p n < n
  · exact .inl ⟨least p n, hlt, by rw [if_pos hlt], h3 hlt, h2⟩
  · refine .inr ⟨by rw [if_neg hlt], fun j hj => h2 j (by omega)⟩
theorem down_cases (a : Int) (p : Nat → Bool) (n : Nat) : (∃ m : Nat, m < n ∧ downV a p n = (a - m, 0) ∧ p m = true ∧ ∀ j, j < m → p j = false) ∨ (downV a p n = (0, 8) ∧ ∀ j, j < n → p j = false) := by
  obtain ⟨h1, h2, h3⟩ := least_spec p n
  unfold downV
  by_cases hlt : least p n < n
  · exact .inl ⟨least p n, hlt, by rw [if_pos hlt], h3 hlt, h2⟩
  · refine .inr ⟨by rw [if_neg hlt], fun j hj => h2 j (by omega)⟩
theorem found_before {a b : Int} {p q : Nat → Bool} {n m : Nat} (h : ∀ j, j < m → q j = true → ∃ i : Nat, i < n ∧ p i = true ∧ a + i ≤ b + j) {v : Int} (hq : foundV b q m = (v, 0)) :
    ∃ u, foundV a p n = (u, 0) ∧ u ≤ v := by
  rcases found_cases b q m with ⟨j, hj, e, hqj, _⟩ | ⟨e, _⟩
  · rw [e] at hq
    injection hq with hv _
    obtain ⟨i, hi, hp, hle⟩ := h j hj hqj
    rcases found_cases a p n with ⟨k, hk, e2, hpk, hall⟩ | ⟨e2, hall⟩
    · refine ⟨_, e2, ?_⟩
      rcases Nat.lt_or_ge i k with hlt | hge
      · rw [hall i hlt] at hp; cases hp
      · omega
    · rw [hall i hi] at hp; cases hp
  · rw [e] at hq
    injection hq with _ h2
    exact absurd h2 (by decide)
theorem cnt_split (f : Int → Bool) {a b : Int} (n : Nat) (h : a ≤ b) : cnt f a ((b - a).toNat + n) = cnt f a (b - a).toNat + cnt f b n := by
  rw [cnt_add, show a + ((b - a).toNat : Int) = b from by omega]
theorem finishV_eq {P : Int} {S D : List (Int × Int)} {t k : Int} (hv : validB P S D = true) (ht : timeB t = true) (hk : timeB k = true) : finishV P S D t k = foundV t (fun i => decide (k ≤ cnt (openI P S D) t i)) (1000001 - t).toNat := by
  unfold finishV; rw [hv, ht, hk]; rfl
theorem latestV_good {P : Int} {S D : List (Int × Int)} {t k : Int} (hv : validB P S D = true) (ht : timeB t = true) (hk : timeB k = true) : latestV P S D t k = downV t (fun i => decide (k ≤ cnt (openI P S D) (t - i) i)) (t + 1).toNat := by
  rw [latestV_eq, hv, ht, hk]; rfl
theorem workV_eq {P : Int} {S D : List (Int × Int)} {a b : Int} (hv : validB P S D = true) (hc : checkB a b = true) : workV P S D a b = (cnt (openI P S D) a (b - a).toNat, 0) := by
  unfold workV; rw [hv, hc]; rfl
theorem nextV_eq {P : Int} {S D : List (Int × Int)} {t : Int} (hv : validB P S D = true) (ht : timeB t = true) : nextV P S D t = foundV t (fun i => openI P S D (t + i)) (1000001 - t).toNat := by
  unfold nextV; rw [hv, ht]; rfl
/-- More work, or a later start, does not finish earlier. -/
theorem grows_law {P : Int} {S D : List (Int × Int)} {a b k l : Int} (hv : validB P S D = true) (h0 : 0 ≤ a) (h1 : a ≤ b) (h2 : b ≤ 1000000) (k0 : 0 ≤ k) (k1 : k ≤ l) (k2 : l ≤ 1000000) (he : (finishV P S D b l).2 = 0) :
    (finishV P S D a k).2 = 0 ∧ (finishV P S D a k).1 ≤ (finishV P S D b l).1 := by
  have ta : timeB a = true := timeB_iff.2 ⟨h0, by omega⟩
  have tb : timeB b = true := timeB_iff.2 ⟨by omega, h2⟩
  have tk : timeB k = true := timeB_iff.2 ⟨k0, by omega⟩
  have tl : timeB l = true := timeB_iff.2 ⟨by omega, k2⟩
  rw [finishV_eq hv ta tk]
  rw [finishV_eq hv tb tl] at *
  generalize hq : foundV b _ _ = r at *
  obtain ⟨v, e⟩ := r
  simp only at he
  subst he
  obtain ⟨u, hu, hle⟩ := found_before (a := a) (p := fun i => decide (k ≤ cnt (openI P S D) a i)) (n := (1000001 - a).toNat) (fun j hj hp => ⟨(b - a).toNat + j, by omega, by
    rw [decide_eq_true_eq] at hp ⊢
    rw [cnt_split _ _ h1]
    have := cnt_bounds (openI P S D) a (b - a).toNat
    omega, by omega⟩) hq
  rw [hu]
  exact ⟨rfl, hle⟩
end Go.Proofs.Ytdcncalcncomoaa
