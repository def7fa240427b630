/- The walk of the law CalendarGrows of layer 51. -/
import Derived.Test.YtbceogoeoojdbaaCalLaws1
namespace Go.Proofs.Ytbceogoeoojdbaa
open Go.RowKit Go.Sort
set_option linter.unusedVariables false

section
variable {P : Int} {A B : Option Addr} {n c m d : Nat} {S D : List (Int × Int)} {w : World}
set_option maxRecDepth 100000 in
set_option maxHeartbeats 8000000 in
theorem calGrows_law (x1 y1 k1 x2 y2 k2 : Int) (h : IsCal w P A n c B m d S D) : Yields Try.prog 9 #[CalV P A n c B m d, askV x1 y1 k1, askV x2 y2 k2] w (.bool true) := by
  apply Yields.ret
  have FW := fun W hW => few_any (w := W) (h.of hW)
  have C1 := fun W hW => finish_any (w := W) x1 k1 (h.of hW)
  have C2 := fun W hW => finish_any (w := W) x2 k2 (h.of hW)
  have GR := fun hv h0 h1 h2 k0 k1' k2' he => grows_law (P := P) (S := S) (D := D) (a := x1) (b := x2) (k := k1) (l := k2) hv h0 h1 h2 k0 k1' k2' he
  simp only [pairV_eq] at C1 C2
  generalize finishV P S D x1 k1 = r at *
  generalize finishV P S D x2 k2 = s at *
  obtain ⟨r1, r2⟩ := r
  obtain ⟨s1, s2⟩ := s
  simp only at C1 C2 GR
  generalize (decide (S.length ≤ 25) && decide (D.length ≤ 25)) = few at *
  cases few
  · clear h GR
    go_enter Try.func9, Try.ntmps9
    go_wp2_with fail
    refine (awake51_any _).calls.mono ?_
    rintro e _ ⟨rfl, z1, rfl⟩
    go_wp2_with fail
    refine (FW _ (by (repeat (first | (with_reducible exact SinceOf.refl _) | (with_reducible assumption) | (with_reducible refine SinceOf.alloc ?_ _) | (with_reducible refine SinceOf.drew ?_) | (with_reducible refine SinceOf.drewN ?_ _) | (with_reducible refine SinceOf.later ?_ _) | (with_reducible refine SinceOf.further ?_ _) | (with_reducible refine SinceOf.setCell ?_ (by first | exact Nat.le_refl _ | (simp; done) | omega | (simp; omega)) _))))).calls.mono ?_
    rintro e _ ⟨rfl, z2, rfl⟩
    go_wp2_with fail
    go_returns
    exact ⟨rfl, by (repeat (first | (with_reducible exact SinceOf.refl _) | (with_reducible assumption) | (with_reducible refine SinceOf.alloc ?_ _) | (with_reducible refine SinceOf.drew ?_) | (with_reducible refine SinceOf.drewN ?_ _) | (with_reducible refine SinceOf.later ?_ _) | (with_reducible refine SinceOf.further ?_ _) | (with_reducible refine SinceOf.setCell ?_ (by first | exact Nat.le_refl _ | (simp; done) | omega | (simp; omega)) _)))⟩
  · cases hv : validB P S D
    · have V := h.refValid hv
      clear h GR hv
      go_enter Try.func9, Try.ntmps9
      go_wp2_with fail
      refine (awake51_any _).calls.mono ?_
      rintro e _ ⟨rfl, z1, rfl⟩
      go_wp2_with fail
      refine (FW _ (by (repeat (first | (with_reducible exact SinceOf.refl _) | (with_reducible assumption) | (with_reducible refine SinceOf.alloc ?_ _) | (with_reducible refine SinceOf.drew ?_) | (with_reducible refine SinceOf.drewN ?_ _) | (with_reducible refine SinceOf.later ?_ _) | (with_reducible refine SinceOf.further ?_ _) | (with_reducible refine SinceOf.setCell ?_ (by first | exact Nat.le_refl _ | (simp; done) | omega | (simp; omega)) _))))).calls.mono ?_
      rintro e _ ⟨rfl, z2, rfl⟩
      go_wp2_with fail
      refine (V _ (by (repeat (first | (with_reducible exact SinceOf.refl _) | (with_reducible assumption) | (with_reducible refine SinceOf.alloc ?_ _) | (with_reducible refine SinceOf.drew ?_) | (with_reducible refine SinceOf.drewN ?_ _) | (with_reducible refine SinceOf.later ?_ _) | (with_reducible refine SinceOf.further ?_ _) | (with_reducible refine SinceOf.setCell ?_ (by first | exact Nat.le_refl _ | (simp; done) | omega | (simp; omega)) _))))).calls.mono ?_
      rintro e _ ⟨rfl, z3, rfl⟩
      go_wp2_with fail
      go_returns
      exact ⟨rfl, by (repeat (first | (with_reducible exact SinceOf.refl _) | (with_reducible assumption) | (with_reducible refine SinceOf.alloc ?_ _) | (with_reducible refine SinceOf.drew ?_) | (with_reducible refine SinceOf.drewN ?_ _) | (with_reducible refine SinceOf.later ?_ _) | (with_reducible refine SinceOf.further ?_ _) | (with_reducible refine SinceOf.setCell ?_ (by first | exact Nat.le_refl _ | (simp; done) | omega | (simp; omega)) _)))⟩
    · have V := h.refValid hv
      have key : ((decide (x1 < 0) = false ∧ decide (x2 < x1) = false ∧ decide (20000 < x2) = false ∧ decide (k1 < 0) = false ∧ decide (k2 < k1) = false ∧ decide (2000 < k2) = false) ∧ 0 ≤ x1 ∧ x1 ≤ x2 ∧ x2 ≤ 1000000 ∧ 0 ≤ k1 ∧ k1 ≤ k2 ∧ k2 ≤ 1000000) ∨
          ((decide (x1 < 0) = true) ∨ (decide (x1 < 0) = false ∧ decide (x2 < x1) = true) ∨ (decide (x1 < 0) = false ∧ decide (x2 < x1) = false ∧ decide (20000 < x2) = true) ∨ (decide (x1 < 0) = false ∧ decide (x2 < x1) = false ∧ decide (20000 < x2) = false ∧ decide (k1 < 0) = true) ∨
          (decide (x1 < 0) = false ∧ decide (x2 < x1) = false ∧ decide (20000 < x2) = false ∧ decide (k1 < 0) = false ∧ decide (k2 < k1) = true) ∨ (decide (x1 < 0) = false ∧ decide (x2 < x1) = false ∧ decide (20000 < x2) = false ∧ decide (k1 < 0) = false ∧ decide (k2 < k1) = false ∧ decide (2000 < k2) = true)) := by
        simp only [decide_eq_true_eq, decide_eq_false_iff_not]; omega
      clear h
      rcases key with ⟨⟨b1, b2, b3, b4, b5, b6⟩, g1, g2, g3, g4, g5, g6⟩ | key
      · have GR := GR hv g1 g2 g3 g4 g5 g6
        have hcase : ((s2 == 0) = false ∧ (s2 != 0) = true) ∨ (s2 = 0 ∧ r2 = 0 ∧ r1 ≤ s1) := by
          by_cases hs : s2 = 0
          · exact .inr ⟨hs, GR hs⟩
          · exact .inl ⟨by simpa using hs, by simpa using hs⟩
        clear GR hv g1 g2 g3 g4 g5 g6
        rcases hcase with ⟨t1, t2⟩ | ⟨rfl, rfl, t2⟩
        all_goals
          go_enter Try.func9, Try.ntmps9
          go_wp2_with fail
          refine (awake51_any _).calls.mono ?_
          rintro e _ ⟨rfl, z1, rfl⟩
          go_wp2_with fail
          refine (FW _ (by (repeat (first | (with_reducible exact SinceOf.refl _) | (with_reducible assumption) | (with_reducible refine SinceOf.alloc ?_ _) | (with_reducible refine SinceOf.drew ?_) | (with_reducible refine SinceOf.drewN ?_ _) | (with_reducible refine SinceOf.later ?_ _) | (with_reducible refine SinceOf.further ?_ _) | (with_reducible refine SinceOf.setCell ?_ (by first | exact Nat.le_refl _ | (simp; done) | omega | (simp; omega)) _))))).calls.mono ?_
          rintro e _ ⟨rfl, z2, rfl⟩
          go_wp2_with fail
          refine (V _ (by (repeat (first | (with_reducible exact SinceOf.refl _) | (with_reducible assumption) | (with_reducible refine SinceOf.alloc ?_ _) | (with_reducible refine SinceOf.drew ?_) | (with_reducible refine SinceOf.drewN ?_ _) | (with_reducible refine SinceOf.later ?_ _) | (with_reducible refine SinceOf.further ?_ _) | (with_reducible refine SinceOf.setCell ?_ (by first | exact Nat.le_refl _ | (simp; done) | omega | (simp; omega)) _))))).calls.mono ?_
          rintro e _ ⟨rfl, z3, rfl⟩
          go_wp2_with fail
          refine region_later (by kernel_rfl) (by kernel_rfl) ?_
          repeat (go_big_quiet_step ((first | (with_reducible refine Gives.later (own_any _ _ _ _ _ _ _ _)) | (with_reducible refine Gives.later (C1 _ (by (repeat (first | (with_reducible exact SinceOf.refl _) | (with_reducible assumption) | (with_reducible refine SinceOf.alloc ?_ _) | (with_reducible refine SinceOf.drew ?_) | (with_reducible refine SinceOf.drewN ?_ _) | (with_reducible refine SinceOf.later ?_ _) | (with_reducible refine SinceOf.further ?_ _) | (with_reducible refine SinceOf.setCell ?_ (by first | exact Nat.le_refl _ | (simp; done) | omega | (simp; omega)) _)))))))))
          refine wpQuiet_nil ?_
          rintro _ ⟨z4, rfl⟩
          go_wp2_with fail
          refine region_later (by kernel_rfl) (by kernel_rfl) ?_
          repeat (go_big_quiet_step ((first | (with_reducible refine Gives.later (own_any _ _ _ _ _ _ _ _)) | (with_reducible refine Gives.later (C2 _ (by (repeat (first | (with_reducible exact SinceOf.refl _) | (with_reducible assumption) | (with_reducible refine SinceOf.alloc ?_ _) | (with_reducible refine SinceOf.drew ?_) | (with_reducible refine SinceOf.drewN ?_ _) | (with_reducible refine SinceOf.later ?_ _) | (with_reducible refine SinceOf.further ?_ _) | (with_reducible refine SinceOf.setCell ?_ (by first | exact Nat.le_refl _ | (simp; done) | omega | (simp; omega)) _)))))))))
          refine wpQuiet_nil ?_
          rintro _ ⟨z5, rfl⟩
          go_wp2_with fail
          go_returns
          first | exact ⟨rfl, by (repeat (first | (with_reducible exact SinceOf.refl _) | (with_reducible assumption) | (with_reducible refine SinceOf.alloc ?_ _) | (with_reducible refine SinceOf.drew ?_) | (with_reducible refine SinceOf.drewN ?_ _) | (with_reducible refine SinceOf.later ?_ _) | (with_reducible refine SinceOf.further ?_ _) | (with_reducible refine SinceOf.setCell ?_ (by first | exact Nat.le_refl _ | (simp; done) | omega | (simp; omega)) _)))⟩ | exact ⟨by simp [t2], by (repeat (first | (with_reducible exact SinceOf.refl _) | (with_reducible assumption) | (with_reducible refine SinceOf.alloc ?_ _) | (with_reducible refine SinceOf.drew ?_) | (with_reducible refine SinceOf.drewN ?_ _) | (with_reducible refine SinceOf.later ?_ _) | (with_reducible refine SinceOf.further ?_ _) | (with_reducible refine SinceOf.setCell ?_ (by first | exact Nat.le_refl _ | (simp; done) | omega | (simp; omega)) _)))⟩
      rcases key with b1 | ⟨b1, b2⟩ | ⟨b1, b2, b3⟩ | ⟨b1, b2, b3, b4⟩ | ⟨b1, b2, b3, b4, b5⟩ | ⟨b1, b2, b3, b4, b5, b6⟩
      all_goals
        clear GR hv
        go_enter Try.func9, Try.ntmps9
        go_wp2_with fail
        refine (awake51_any _).calls.mono ?_
        rintro e _ ⟨rfl, z1, rfl⟩
        go_wp2_with fail
        refine (FW _ (by (repeat (first | (with_reducible exact SinceOf.refl _) | (with_reducible assumption) | (with_reducible refine SinceOf.alloc ?_ _) | (with_reducible refine SinceOf.drew ?_) | (with_reducible refine SinceOf.drewN ?_ _) | (with_reducible refine SinceOf.later ?_ _) | (with_reducible refine SinceOf.further ?_ _) | (with_reducible refine SinceOf.setCell ?_ (by first | exact Nat.le_refl _ | (simp; done) | omega | (simp; omega)) _))))).calls.mono ?_
        rintro e _ ⟨rfl, z2, rfl⟩
        go_wp2_with fail
        refine (V _ (by (repeat (first | (with_reducible exact SinceOf.refl _) | (with_reducible assumption) | (with_reducible refine SinceOf.alloc ?_ _) | (with_reducible refine SinceOf.drew ?_) | (with_reducible refine SinceOf.drewN ?_ _) | (with_reducible refine SinceOf.later ?_ _) | (with_reducible refine SinceOf.further ?_ _) | (with_reducible refine SinceOf.setCell ?_ (by first | exact Nat.le_refl _ | (simp; done) | omega | (simp; omega)) _))))).calls.mono ?_
        rintro e _ ⟨rfl, z3, rfl⟩
        go_wp2_with fail
        go_returns
        exact ⟨rfl, by (repeat (first | (with_reducible exact SinceOf.refl _) | (with_reducible assumption) | (with_reducible refine SinceOf.alloc ?_ _) | (with_reducible refine SinceOf.drew ?_) | (with_reducible refine SinceOf.drewN ?_ _) | (with_reducible refine SinceOf.later ?_ _) | (with_reducible refine SinceOf.further ?_ _) | (with_reducible refine SinceOf.setCell ?_ (by first | exact Nat.le_refl _ | (simp; done) | omega | (simp; omega)) _)))⟩
end
end Go.Proofs.Ytbceogoeoojdbaa
