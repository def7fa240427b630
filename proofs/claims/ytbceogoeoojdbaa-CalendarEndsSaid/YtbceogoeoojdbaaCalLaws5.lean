/- The law CalendarEnds of layer 51: the plain law and the walk. -/
import Derived.Test.YtbceogoeoojdbaaCalLaws1
namespace Go.Proofs.Ytbceogoeoojdbaa
open Go.RowKit Go.Sort
set_option linter.unusedVariables false

theorem ends_law {P : Int} {S D : List (Int × Int)} {x k : Int} (hv : validB P S D = true) (h0 : 0 ≤ x) (h1 : x ≤ 1000000) (k0 : 0 ≤ k) (k1 : k ≤ 1000000) :
    (finishV P S D x k = (0, 8) ∧ 0 < k) ∨ ∃ f l, finishV P S D x k = (f, 0) ∧ workV P S D x f = (k, 0) ∧ x ≤ f ∧ f ≤ 1000000 ∧ (0 < k → x < f ∧ openV P S D (f - 1) = true) ∧ (k = 0 → f = x) ∧ latestV P S D f k = (l, 0) ∧ x ≤ l ∧ (openV P S D x = true → 0 < k → l = x) := by
  have tx : timeB x = true := timeB_iff.2 ⟨h0, h1⟩
  have tk : timeB k = true := timeB_iff.2 ⟨k0, k1⟩
  rw [finishV_eq hv tx tk]
  rcases found_cases x (fun i => decide (k ≤ cnt (openI P S D) x i)) (1000001 - x).toNat with ⟨m, hm, e, hp, hall⟩ | ⟨e, hall⟩
  · right
    have hp : k ≤ cnt (openI P S D) x m := by simpa using hp
    have hall : ∀ j, j < m → cnt (openI P S D) x j < k := fun j hj => by have := hall j hj; simp only [decide_eq_false_iff_not] at this; omega
    have tf : timeB (x + m) = true := timeB_iff.2 ⟨by omega, by omega⟩
    have hkm : cnt (openI P S D) x m = k ∧ (0 < k → 0 < m ∧ openI P S D (x + m - 1) = true) ∧ (k = 0 → m = 0) := by
      cases m with
      | zero =>
        have : cnt (openI P S D) x 0 = 0 := rfl
        exact ⟨by omega, fun h => by omega, fun _ => rfl⟩
      | succ j =>
        have a1 := hall j (by omega)
        have a2 := (cnt_bounds (openI P S D) x j).1
        have a3 : cnt (openI P S D) x (j + 1) = cnt (openI P S D) x j + (if openI P S D (x + j) = true then 1 else 0) := rfl
        cases ho : openI P S D (x + j)
        · rw [ho] at a3; simp at a3; omega
        · rw [ho] at a3; simp at a3
          refine ⟨by omega, fun _ => ⟨by omega, ?_⟩, fun h => by omega⟩
          rw [show x + ((j + 1 : Nat) : Int) - 1 = x + j from by omega]; exact ho
    obtain ⟨hk, hpos, hzero⟩ := hkm
    have hlv := latestV_good hv tf tk
    have hl : decide (k ≤ cnt (openI P S D) (x + m - m) m) = true := by
      simp only [decide_eq_true_eq]; rw [show x + (m : Int) - m = x from by omega]; omega
    rcases down_cases (x + m) (fun i => decide (k ≤ cnt (openI P S D) (x + m - i) i)) (x + m + 1).toNat with ⟨i, hi, e2, hp2, hall2⟩ | ⟨e2, hall2⟩
    · have him : i ≤ m := by
        by_cases hc : i ≤ m
        · exact hc
        · have := hall2 m (by omega); rw [hl] at this; cases this
      refine ⟨x + m, x + m - i, e, ?_, by omega, by omega, fun h => ⟨by have := (hpos h).1; omega, ?_⟩, fun h => by have := hzero h; omega, by rw [hlv]; exact e2, by omega, fun ho h => ?_⟩
      · rw [workV_eq hv (checkB_iff.2 ⟨h0, by omega, by omega⟩), show (x + (m : Int) - x).toNat = m from by omega, hk]
      · unfold openV; rw [hv, (hpos h).2, timeB_iff.2 ⟨by have := (hpos h).1; omega, by omega⟩]; rfl
      · have ho : openI P S D x = true := by unfold openV at ho; simp at ho; exact ho.2
        by_cases hc : i = m
        · omega
        · have hp2 : k ≤ cnt (openI P S D) (x + m - i) i := by simpa using hp2
          have s := cnt_split (openI P S D) (a := x) (b := x + m - i) i (by omega)
          rw [show (x + (m : Int) - i - x).toNat = m - i from by omega, show m - i + i = m from by omega] at s
          have s2 := cnt_mono (openI P S D) x 1 (m - i) (by omega)
          have s3 : cnt (openI P S D) x 1 = 1 := by
            show 0 + (if openI P S D (x + ((0 : Nat) : Int)) = true then 1 else 0) = (1 : Int)
            rw [show x + ((0 : Nat) : Int) = x from by omega, ho]; rfl
          omega
    · have := hall2 m (by omega); rw [hl] at this; cases this
  · left
    refine ⟨e, ?_⟩
    have := hall 0 (by omega)
    simp only [decide_eq_false_iff_not] at this
    have e0 : cnt (openI P S D) x 0 = 0 := rfl
    omega

section
variable {P : Int} {A B : Option Addr} {n c m d : Nat} {S D : List (Int × Int)} {w : World}
set_option maxRecDepth 100000 in
set_option maxHeartbeats 8000000 in
theorem calEnds_law (x y k : Int) (h : IsCal w P A n c B m d S D) : Yields Try.prog 11 #[CalV P A n c B m d, askV x y k] w (.bool true) := by
  apply Yields.ret
  have FW := fun W hW => few_any (w := W) (h.of hW)
  generalize (decide (S.length ≤ 25) && decide (D.length ≤ 25)) = few at *
  cases few
  · clear h
    go_enter Try.func11, Try.ntmps11
    go_wp2_with fail
    refine (awake51_any _).calls.mono ?_
    rintro e _ ⟨rfl, x1, rfl⟩
    go_wp2_with fail
    refine (FW _ (by (repeat (first | (with_reducible exact SinceOf.refl _) | (with_reducible assumption) | (with_reducible refine SinceOf.alloc ?_ _) | (with_reducible refine SinceOf.drew ?_) | (with_reducible refine SinceOf.drewN ?_ _) | (with_reducible refine SinceOf.later ?_ _) | (with_reducible refine SinceOf.further ?_ _) | (with_reducible refine SinceOf.setCell ?_ (by first | exact Nat.le_refl _ | (simp; done) | omega | (simp; omega)) _))))).calls.mono ?_
    rintro e _ ⟨rfl, x2, rfl⟩
    go_wp2_with fail
    go_returns
    exact ⟨rfl, by (repeat (first | (with_reducible exact SinceOf.refl _) | (with_reducible assumption) | (with_reducible refine SinceOf.alloc ?_ _) | (with_reducible refine SinceOf.drew ?_) | (with_reducible refine SinceOf.drewN ?_ _) | (with_reducible refine SinceOf.later ?_ _) | (with_reducible refine SinceOf.further ?_ _) | (with_reducible refine SinceOf.setCell ?_ (by first | exact Nat.le_refl _ | (simp; done) | omega | (simp; omega)) _)))⟩
  · have V := h.refValid (v := validB P S D) rfl
    cases hv : validB P S D
    · rw [hv] at V
      clear h hv
      go_enter Try.func11, Try.ntmps11
      go_wp2_with fail
      refine (awake51_any _).calls.mono ?_
      rintro e _ ⟨rfl, x1, rfl⟩
      go_wp2_with fail
      refine (FW _ (by (repeat (first | (with_reducible exact SinceOf.refl _) | (with_reducible assumption) | (with_reducible refine SinceOf.alloc ?_ _) | (with_reducible refine SinceOf.drew ?_) | (with_reducible refine SinceOf.drewN ?_ _) | (with_reducible refine SinceOf.later ?_ _) | (with_reducible refine SinceOf.further ?_ _) | (with_reducible refine SinceOf.setCell ?_ (by first | exact Nat.le_refl _ | (simp; done) | omega | (simp; omega)) _))))).calls.mono ?_
      rintro e _ ⟨rfl, x2, rfl⟩
      go_wp2_with fail
      refine (V _ (by (repeat (first | (with_reducible exact SinceOf.refl _) | (with_reducible assumption) | (with_reducible refine SinceOf.alloc ?_ _) | (with_reducible refine SinceOf.drew ?_) | (with_reducible refine SinceOf.drewN ?_ _) | (with_reducible refine SinceOf.later ?_ _) | (with_reducible refine SinceOf.further ?_ _) | (with_reducible refine SinceOf.setCell ?_ (by first | exact Nat.le_refl _ | (simp; done) | omega | (simp; omega)) _))))).calls.mono ?_
      rintro e _ ⟨rfl, x3, rfl⟩
      go_wp2_with fail
      go_returns
      exact ⟨rfl, by (repeat (first | (with_reducible exact SinceOf.refl _) | (with_reducible assumption) | (with_reducible refine SinceOf.alloc ?_ _) | (with_reducible refine SinceOf.drew ?_) | (with_reducible refine SinceOf.drewN ?_ _) | (with_reducible refine SinceOf.later ?_ _) | (with_reducible refine SinceOf.further ?_ _) | (with_reducible refine SinceOf.setCell ?_ (by first | exact Nat.le_refl _ | (simp; done) | omega | (simp; omega)) _)))⟩
    · rw [hv] at V
      have key : ((decide (x < 0) = true) ∨ (decide (x < 0) = false ∧ decide (20000 < x) = true) ∨ (decide (x < 0) = false ∧ decide (20000 < x) = false ∧ decide (k < 0) = true) ∨ (decide (x < 0) = false ∧ decide (20000 < x) = false ∧ decide (k < 0) = false ∧ decide (2000 < k) = true)) ∨
          ((decide (x < 0) = false ∧ decide (20000 < x) = false ∧ decide (k < 0) = false ∧ decide (2000 < k) = false) ∧ 0 ≤ x ∧ x ≤ 1000000 ∧ 0 ≤ k ∧ k ≤ 1000000) := by
        simp only [decide_eq_true_eq, decide_eq_false_iff_not]; omega
      rcases key with key | ⟨⟨b1, b2, b3, b4⟩, g1, g2, g3, g4⟩
      · rcases key with b1 | ⟨b1, b2⟩ | ⟨b1, b2, b3⟩ | ⟨b1, b2, b3, b4⟩
        all_goals
          clear h hv
          go_enter Try.func11, Try.ntmps11
          go_wp2_with fail
          refine (awake51_any _).calls.mono ?_
          rintro e _ ⟨rfl, x1, rfl⟩
          go_wp2_with fail
          refine (FW _ (by (repeat (first | (with_reducible exact SinceOf.refl _) | (with_reducible assumption) | (with_reducible refine SinceOf.alloc ?_ _) | (with_reducible refine SinceOf.drew ?_) | (with_reducible refine SinceOf.drewN ?_ _) | (with_reducible refine SinceOf.later ?_ _) | (with_reducible refine SinceOf.further ?_ _) | (with_reducible refine SinceOf.setCell ?_ (by first | exact Nat.le_refl _ | (simp; done) | omega | (simp; omega)) _))))).calls.mono ?_
          rintro e _ ⟨rfl, x2, rfl⟩
          go_wp2_with fail
          refine (V _ (by (repeat (first | (with_reducible exact SinceOf.refl _) | (with_reducible assumption) | (with_reducible refine SinceOf.alloc ?_ _) | (with_reducible refine SinceOf.drew ?_) | (with_reducible refine SinceOf.drewN ?_ _) | (with_reducible refine SinceOf.later ?_ _) | (with_reducible refine SinceOf.further ?_ _) | (with_reducible refine SinceOf.setCell ?_ (by first | exact Nat.le_refl _ | (simp; done) | omega | (simp; omega)) _))))).calls.mono ?_
          rintro e _ ⟨rfl, x3, rfl⟩
          go_wp2_with fail
          go_returns
          exact ⟨rfl, by (repeat (first | (with_reducible exact SinceOf.refl _) | (with_reducible assumption) | (with_reducible refine SinceOf.alloc ?_ _) | (with_reducible refine SinceOf.drew ?_) | (with_reducible refine SinceOf.drewN ?_ _) | (with_reducible refine SinceOf.later ?_ _) | (with_reducible refine SinceOf.further ?_ _) | (with_reducible refine SinceOf.setCell ?_ (by first | exact Nat.le_refl _ | (simp; done) | omega | (simp; omega)) _)))⟩
      · have C1 := fun W hW => finish_any (w := W) x k (h.of hW)
        rcases ends_law (P := P) (S := S) (D := D) hv g1 g2 g3 g4 with ⟨e1, hk⟩ | ⟨f, l, e1, e2, q1, q2, q3, q4, e3, q5, q6⟩
        · rw [e1] at C1
          simp only [pairV_eq] at C1
          clear h hv e1
          go_enter Try.func11, Try.ntmps11
          go_wp2_with fail
          refine (awake51_any _).calls.mono ?_
          rintro e _ ⟨rfl, x1, rfl⟩
          go_wp2_with fail
          refine (FW _ (by (repeat (first | (with_reducible exact SinceOf.refl _) | (with_reducible assumption) | (with_reducible refine SinceOf.alloc ?_ _) | (with_reducible refine SinceOf.drew ?_) | (with_reducible refine SinceOf.drewN ?_ _) | (with_reducible refine SinceOf.later ?_ _) | (with_reducible refine SinceOf.further ?_ _) | (with_reducible refine SinceOf.setCell ?_ (by first | exact Nat.le_refl _ | (simp; done) | omega | (simp; omega)) _))))).calls.mono ?_
          rintro e _ ⟨rfl, x2, rfl⟩
          go_wp2_with fail
          refine (V _ (by (repeat (first | (with_reducible exact SinceOf.refl _) | (with_reducible assumption) | (with_reducible refine SinceOf.alloc ?_ _) | (with_reducible refine SinceOf.drew ?_) | (with_reducible refine SinceOf.drewN ?_ _) | (with_reducible refine SinceOf.later ?_ _) | (with_reducible refine SinceOf.further ?_ _) | (with_reducible refine SinceOf.setCell ?_ (by first | exact Nat.le_refl _ | (simp; done) | omega | (simp; omega)) _))))).calls.mono ?_
          rintro e _ ⟨rfl, x3, rfl⟩
          go_wp2_with fail
          refine (own_any _ _ _ _ _ _ _ _).calls.mono ?_
          rintro e _ ⟨rfl, x4, rfl⟩
          go_wp2_with fail
          refine (C1 _ (by (repeat (first | (with_reducible exact SinceOf.refl _) | (with_reducible assumption) | (with_reducible refine SinceOf.alloc ?_ _) | (with_reducible refine SinceOf.drew ?_) | (with_reducible refine SinceOf.drewN ?_ _) | (with_reducible refine SinceOf.later ?_ _) | (with_reducible refine SinceOf.further ?_ _) | (with_reducible refine SinceOf.setCell ?_ (by first | exact Nat.le_refl _ | (simp; done) | omega | (simp; omega)) _))))).calls.mono ?_
          rintro e _ ⟨rfl, x5, rfl⟩
          go_wp2_with fail
          go_returns
          exact ⟨by simp [hk], by (repeat (first | (with_reducible exact SinceOf.refl _) | (with_reducible assumption) | (with_reducible refine SinceOf.alloc ?_ _) | (with_reducible refine SinceOf.drew ?_) | (with_reducible refine SinceOf.drewN ?_ _) | (with_reducible refine SinceOf.later ?_ _) | (with_reducible refine SinceOf.further ?_ _) | (with_reducible refine SinceOf.setCell ?_ (by first | exact Nat.le_refl _ | (simp; done) | omega | (simp; omega)) _)))⟩
        · have C2 := fun W hW => work_law (w := W) x f (h.of hW)
          have C3 := fun W hW => latest_any (w := W) f k (h.of hW)
          have O1 := fun W hW => open_any (w := W) (f - 1) (h.of hW)
          have O2 := fun W hW => open_any (w := W) x (h.of hW)
          rw [e1] at C1
          rw [e2] at C2
          rw [e3] at C3
          simp only [pairV_eq] at C1 C2 C3
          have hfx : decide (f < x) = false := by simp; omega
          have hlx : decide (x ≤ l) = true := by simp; omega
          clear h hv e1 e2 e3
          generalize openV P S D x = o at *
          have hcase : (k = 0 ∧ f = x) ∨ ((0 < k ∧ openV P S D (f - 1) = true ∧ 0 < f) ∧ (o = false ∨ (o = true ∧ l = x))) := by
            by_cases hk : k = 0
            · exact .inl ⟨hk, q4 hk⟩
            · have hk : 0 < k := by omega
              refine .inr ⟨⟨hk, (q3 hk).2, by have := (q3 hk).1; omega⟩, ?_⟩
              cases o
              · exact .inl rfl
              · exact .inr ⟨rfl, q6 rfl hk⟩
          clear q3 q4 q6
          rcases hcase with ⟨rfl, rfl⟩ | ⟨⟨p1, p2, p3⟩, hc⟩
          · clear O1
            cases o
            all_goals
              go_enter Try.func11, Try.ntmps11
              go_wp2_with fail
              refine (awake51_any _).calls.mono ?_
              rintro e _ ⟨rfl, x1, rfl⟩
              go_wp2_with fail
              refine (FW _ (by (repeat (first | (with_reducible exact SinceOf.refl _) | (with_reducible assumption) | (with_reducible refine SinceOf.alloc ?_ _) | (with_reducible refine SinceOf.drew ?_) | (with_reducible refine SinceOf.drewN ?_ _) | (with_reducible refine SinceOf.later ?_ _) | (with_reducible refine SinceOf.further ?_ _) | (with_reducible refine SinceOf.setCell ?_ (by first | exact Nat.le_refl _ | (simp; done) | omega | (simp; omega)) _))))).calls.mono ?_
              rintro e _ ⟨rfl, x2, rfl⟩
              go_wp2_with fail
              refine (V _ (by (repeat (first | (with_reducible exact SinceOf.refl _) | (with_reducible assumption) | (with_reducible refine SinceOf.alloc ?_ _) | (with_reducible refine SinceOf.drew ?_) | (with_reducible refine SinceOf.drewN ?_ _) | (with_reducible refine SinceOf.later ?_ _) | (with_reducible refine SinceOf.further ?_ _) | (with_reducible refine SinceOf.setCell ?_ (by first | exact Nat.le_refl _ | (simp; done) | omega | (simp; omega)) _))))).calls.mono ?_
              rintro e _ ⟨rfl, x3, rfl⟩
              go_wp2_with fail
              refine (own_any _ _ _ _ _ _ _ _).calls.mono ?_
              rintro e _ ⟨rfl, x4, rfl⟩
              go_wp2_with fail
              refine (C1 _ (by (repeat (first | (with_reducible exact SinceOf.refl _) | (with_reducible assumption) | (with_reducible refine SinceOf.alloc ?_ _) | (with_reducible refine SinceOf.drew ?_) | (with_reducible refine SinceOf.drewN ?_ _) | (with_reducible refine SinceOf.later ?_ _) | (with_reducible refine SinceOf.further ?_ _) | (with_reducible refine SinceOf.setCell ?_ (by first | exact Nat.le_refl _ | (simp; done) | omega | (simp; omega)) _))))).calls.mono ?_
              rintro e _ ⟨rfl, x5, rfl⟩
              go_wp2_with fail
              refine (C2 _ (by (repeat (first | (with_reducible exact SinceOf.refl _) | (with_reducible assumption) | (with_reducible refine SinceOf.alloc ?_ _) | (with_reducible refine SinceOf.drew ?_) | (with_reducible refine SinceOf.drewN ?_ _) | (with_reducible refine SinceOf.later ?_ _) | (with_reducible refine SinceOf.further ?_ _) | (with_reducible refine SinceOf.setCell ?_ (by first | exact Nat.le_refl _ | (simp; done) | omega | (simp; omega)) _))))).calls.mono ?_
              rintro e _ ⟨rfl, x6, rfl⟩
              go_wp2_with fail
              refine (C3 _ (by (repeat (first | (with_reducible exact SinceOf.refl _) | (with_reducible assumption) | (with_reducible refine SinceOf.alloc ?_ _) | (with_reducible refine SinceOf.drew ?_) | (with_reducible refine SinceOf.drewN ?_ _) | (with_reducible refine SinceOf.later ?_ _) | (with_reducible refine SinceOf.further ?_ _) | (with_reducible refine SinceOf.setCell ?_ (by first | exact Nat.le_refl _ | (simp; done) | omega | (simp; omega)) _))))).calls.mono ?_
              rintro e _ ⟨rfl, x7, rfl⟩
              go_wp2_with fail
              refine (O2 _ (by (repeat (first | (with_reducible exact SinceOf.refl _) | (with_reducible assumption) | (with_reducible refine SinceOf.alloc ?_ _) | (with_reducible refine SinceOf.drew ?_) | (with_reducible refine SinceOf.drewN ?_ _) | (with_reducible refine SinceOf.later ?_ _) | (with_reducible refine SinceOf.further ?_ _) | (with_reducible refine SinceOf.setCell ?_ (by first | exact Nat.le_refl _ | (simp; done) | omega | (simp; omega)) _))))).calls.mono ?_
              rintro e _ ⟨rfl, x8, rfl⟩
              go_wp2_with fail
              go_returns
              exact ⟨by simp [*], by (repeat (first | (with_reducible exact SinceOf.refl _) | (with_reducible assumption) | (with_reducible refine SinceOf.alloc ?_ _) | (with_reducible refine SinceOf.drew ?_) | (with_reducible refine SinceOf.drewN ?_ _) | (with_reducible refine SinceOf.later ?_ _) | (with_reducible refine SinceOf.further ?_ _) | (with_reducible refine SinceOf.setCell ?_ (by first | exact Nat.le_refl _ | (simp; done) | omega | (simp; omega)) _)))⟩
          · rw [p2] at O1
            have hk : decide (0 < k) = true := by simp; omega
            have hk0 : (k == 0) = false := by simp; omega
            rcases hc with rfl | ⟨rfl, rfl⟩
            all_goals
              go_enter Try.func11, Try.ntmps11
              go_wp2_with fail
              refine (awake51_any _).calls.mono ?_
              rintro e _ ⟨rfl, x1, rfl⟩
              go_wp2_with fail
              refine (FW _ (by (repeat (first | (with_reducible exact SinceOf.refl _) | (with_reducible assumption) | (with_reducible refine SinceOf.alloc ?_ _) | (with_reducible refine SinceOf.drew ?_) | (with_reducible refine SinceOf.drewN ?_ _) | (with_reducible refine SinceOf.later ?_ _) | (with_reducible refine SinceOf.further ?_ _) | (with_reducible refine SinceOf.setCell ?_ (by first | exact Nat.le_refl _ | (simp; done) | omega | (simp; omega)) _))))).calls.mono ?_
              rintro e _ ⟨rfl, x2, rfl⟩
              go_wp2_with fail
              refine (V _ (by (repeat (first | (with_reducible exact SinceOf.refl _) | (with_reducible assumption) | (with_reducible refine SinceOf.alloc ?_ _) | (with_reducible refine SinceOf.drew ?_) | (with_reducible refine SinceOf.drewN ?_ _) | (with_reducible refine SinceOf.later ?_ _) | (with_reducible refine SinceOf.further ?_ _) | (with_reducible refine SinceOf.setCell ?_ (by first | exact Nat.le_refl _ | (simp; done) | omega | (simp; omega)) _))))).calls.mono ?_
              rintro e _ ⟨rfl, x3, rfl⟩
              go_wp2_with fail
              refine (own_any _ _ _ _ _ _ _ _).calls.mono ?_
              rintro e _ ⟨rfl, x4, rfl⟩
              go_wp2_with fail
              refine (C1 _ (by (repeat (first | (with_reducible exact SinceOf.refl _) | (with_reducible assumption) | (with_reducible refine SinceOf.alloc ?_ _) | (with_reducible refine SinceOf.drew ?_) | (with_reducible refine SinceOf.drewN ?_ _) | (with_reducible refine SinceOf.later ?_ _) | (with_reducible refine SinceOf.further ?_ _) | (with_reducible refine SinceOf.setCell ?_ (by first | exact Nat.le_refl _ | (simp; done) | omega | (simp; omega)) _))))).calls.mono ?_
              rintro e _ ⟨rfl, x5, rfl⟩
              go_wp2_with fail
              refine (C2 _ (by (repeat (first | (with_reducible exact SinceOf.refl _) | (with_reducible assumption) | (with_reducible refine SinceOf.alloc ?_ _) | (with_reducible refine SinceOf.drew ?_) | (with_reducible refine SinceOf.drewN ?_ _) | (with_reducible refine SinceOf.later ?_ _) | (with_reducible refine SinceOf.further ?_ _) | (with_reducible refine SinceOf.setCell ?_ (by first | exact Nat.le_refl _ | (simp; done) | omega | (simp; omega)) _))))).calls.mono ?_
              rintro e _ ⟨rfl, x6, rfl⟩
              go_wp2_with fail
              refine (O1 _ (by (repeat (first | (with_reducible exact SinceOf.refl _) | (with_reducible assumption) | (with_reducible refine SinceOf.alloc ?_ _) | (with_reducible refine SinceOf.drew ?_) | (with_reducible refine SinceOf.drewN ?_ _) | (with_reducible refine SinceOf.later ?_ _) | (with_reducible refine SinceOf.further ?_ _) | (with_reducible refine SinceOf.setCell ?_ (by first | exact Nat.le_refl _ | (simp; done) | omega | (simp; omega)) _))))).calls.mono ?_
              rintro e _ ⟨rfl, x7, rfl⟩
              go_wp2_with fail
              refine (C3 _ (by (repeat (first | (with_reducible exact SinceOf.refl _) | (with_reducible assumption) | (with_reducible refine SinceOf.alloc ?_ _) | (with_reducible refine SinceOf.drew ?_) | (with_reducible refine SinceOf.drewN ?_ _) | (with_reducible refine SinceOf.later ?_ _) | (with_reducible refine SinceOf.further ?_ _) | (with_reducible refine SinceOf.setCell ?_ (by first | exact Nat.le_refl _ | (simp; done) | omega | (simp; omega)) _))))).calls.mono ?_
              rintro e _ ⟨rfl, x8, rfl⟩
              go_wp2_with fail
              refine (O2 _ (by (repeat (first | (with_reducible exact SinceOf.refl _) | (with_reducible assumption) | (with_reducible refine SinceOf.alloc ?_ _) | (with_reducible refine SinceOf.drew ?_) | (with_reducible refine SinceOf.drewN ?_ _) | (with_reducible refine SinceOf.later ?_ _) | (with_reducible refine SinceOf.further ?_ _) | (with_reducible refine SinceOf.setCell ?_ (by first | exact Nat.le_refl _ | (simp; done) | omega | (simp; omega)) _))))).calls.mono ?_
              rintro e _ ⟨rfl, x9, rfl⟩
              go_wp2_with fail
              go_returns
              exact ⟨by simp [*], by (repeat (first | (with_reducible exact SinceOf.refl _) | (with_reducible assumption) | (with_reducible refine SinceOf.alloc ?_ _) | (with_reducible refine SinceOf.drew ?_) | (with_reducible refine SinceOf.drewN ?_ _) | (with_reducible refine SinceOf.later ?_ _) | (with_reducible refine SinceOf.further ?_ _) | (with_reducible refine SinceOf.setCell ?_ (by first | exact Nat.le_refl _ | (simp; done) | omega | (simp; omega)) _)))⟩
end
end Go.Proofs.Ytbceogoeoojdbaa
