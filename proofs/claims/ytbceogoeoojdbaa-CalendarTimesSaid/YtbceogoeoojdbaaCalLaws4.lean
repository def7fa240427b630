/- The walk of the law CalendarTimes of layer 51. -/
import Derived.Test.YtbceogoeoojdbaaCalLaws1
import Derived.Test.YtbceogoeoojdbaaCal12
namespace Go.Proofs.Ytbceogoeoojdbaa
open Go.RowKit Go.Sort
set_option linter.unusedVariables false

section
variable {P : Int} {A B : Option Addr} {n c m d : Nat} {S D : List (Int × Int)} {w : World}
set_option maxRecDepth 100000 in
set_option maxHeartbeats 8000000 in
theorem calTimes_law (x y k : Int) (h : IsCal w P A n c B m d S D) : Yields Try.prog 13 #[CalV P A n c B m d, askV x y k] w (.bool true) := by
  apply Yields.ret
  have FW := fun W hW => few_any (w := W) (h.of hW)
  have C1 := fun W hW => next_any (w := W) x (h.of hW)
  have C2 := fun W hW => refNext_any (w := W) x (h.of hW)
  have C3 := fun W hW => work_law (w := W) x y (h.of hW)
  have C4 := fun W hW => refWork_any (w := W) x y (h.of hW)
  have C5 := fun W hW => spans_any (w := W) x y (h.of hW)
  have C6 := fun W hW => refSpans_any (w := W) x y (h.of hW)
  have O1 := fun W hW => open_any (w := W) x (h.of hW)
  have O2 := fun W hW => refOpenAt_any (w := W) x (h.of hW)
  have V1 := h.valid rfl
  have V2 := h.refValid rfl
  simp only [pairV_eq] at C1 C2 C3 C4
  generalize nextV P S D x = r at *
  generalize workV P S D x y = s at *
  generalize openV P S D x = o at *
  generalize validB P S D = v at *
  obtain ⟨r1, r2⟩ := r
  obtain ⟨s1, s2⟩ := s
  simp only at C1 C2 C3 C4
  generalize (decide (S.length ≤ 25) && decide (D.length ≤ 25)) = few at *
  clear h
  cases few
  · go_enter Try.func13, Try.ntmps13
    go_wp2_with fail
    refine (awake51_any _).calls.mono ?_
    rintro e _ ⟨rfl, x1, rfl⟩
    go_wp2_with fail
    refine (FW _ (by (repeat (first | (with_reducible exact SinceOf.refl _) | (with_reducible assumption) | (with_reducible refine SinceOf.alloc ?_ _) | (with_reducible refine SinceOf.drew ?_) | (with_reducible refine SinceOf.drewN ?_ _) | (with_reducible refine SinceOf.later ?_ _) | (with_reducible refine SinceOf.further ?_ _) | (with_reducible refine SinceOf.setCell ?_ (by first | exact Nat.le_refl _ | (simp; done) | omega | (simp; omega)) _))))).calls.mono ?_
    rintro e _ ⟨rfl, x2, rfl⟩
    go_wp2_with fail
    go_returns
    exact ⟨rfl, by (repeat (first | (with_reducible exact SinceOf.refl _) | (with_reducible assumption) | (with_reducible refine SinceOf.alloc ?_ _) | (with_reducible refine SinceOf.drew ?_) | (with_reducible refine SinceOf.drewN ?_ _) | (with_reducible refine SinceOf.later ?_ _) | (with_reducible refine SinceOf.further ?_ _) | (with_reducible refine SinceOf.setCell ?_ (by first | exact Nat.le_refl _ | (simp; done) | omega | (simp; omega)) _)))⟩
  · have key : ((decide (20000 < y) = true ∧ decide (y ≤ 1000000) = true) ∨ (decide (20000 < y) = true ∧ decide (y ≤ 1000000) = false ∧ decide (20000 < x) = true ∧ decide (x ≤ 1000000) = true) ∨ (decide (20000 < y) = false ∧ decide (20000 < x) = true ∧ decide (x ≤ 1000000) = true)) ∨
        ((decide (20000 < y) = true ∧ decide (y ≤ 1000000) = false ∧ decide (20000 < x) = true ∧ decide (x ≤ 1000000) = false) ∨ (decide (20000 < y) = true ∧ decide (y ≤ 1000000) = false ∧ decide (20000 < x) = false) ∨ (decide (20000 < y) = false ∧ decide (20000 < x) = true ∧ decide (x ≤ 1000000) = false) ∨ (decide (20000 < y) = false ∧ decide (20000 < x) = false)) := by
      simp only [decide_eq_true_eq, decide_eq_false_iff_not]; omega
    rcases key with key | key
    · rcases key with ⟨k1, k2⟩ | ⟨k1, k2, k3, k4⟩ | ⟨k1, k2, k3⟩
      all_goals
        go_enter Try.func13, Try.ntmps13
        go_wp2_with fail
        refine (awake51_any _).calls.mono ?_
        rintro e _ ⟨rfl, x1, rfl⟩
        go_wp2_with fail
        refine (FW _ (by (repeat (first | (with_reducible exact SinceOf.refl _) | (with_reducible assumption) | (with_reducible refine SinceOf.alloc ?_ _) | (with_reducible refine SinceOf.drew ?_) | (with_reducible refine SinceOf.drewN ?_ _) | (with_reducible refine SinceOf.later ?_ _) | (with_reducible refine SinceOf.further ?_ _) | (with_reducible refine SinceOf.setCell ?_ (by first | exact Nat.le_refl _ | (simp; done) | omega | (simp; omega)) _))))).calls.mono ?_
        rintro e _ ⟨rfl, x2, rfl⟩
        go_wp2_with fail
        go_returns
        exact ⟨rfl, by (repeat (first | (with_reducible exact SinceOf.refl _) | (with_reducible assumption) | (with_reducible refine SinceOf.alloc ?_ _) | (with_reducible refine SinceOf.drew ?_) | (with_reducible refine SinceOf.drewN ?_ _) | (with_reducible refine SinceOf.later ?_ _) | (with_reducible refine SinceOf.further ?_ _) | (with_reducible refine SinceOf.setCell ?_ (by first | exact Nat.le_refl _ | (simp; done) | omega | (simp; omega)) _)))⟩
    · rcases key with ⟨k1, k2, k3, k4⟩ | ⟨k1, k2, k3⟩ | ⟨k1, k2, k3⟩ | ⟨k1, k2⟩
      all_goals
        go_enter Try.func13, Try.ntmps13
        go_wp2_with fail
        refine (awake51_any _).calls.mono ?_
        rintro e _ ⟨rfl, x1, rfl⟩
        go_wp2_with fail
        refine (FW _ (by (repeat (first | (with_reducible exact SinceOf.refl _) | (with_reducible assumption) | (with_reducible refine SinceOf.alloc ?_ _) | (with_reducible refine SinceOf.drew ?_) | (with_reducible refine SinceOf.drewN ?_ _) | (with_reducible refine SinceOf.later ?_ _) | (with_reducible refine SinceOf.further ?_ _) | (with_reducible refine SinceOf.setCell ?_ (by first | exact Nat.le_refl _ | (simp; done) | omega | (simp; omega)) _))))).calls.mono ?_
        rintro e _ ⟨rfl, x2, rfl⟩
        go_wp2_with fail
        refine (own_any _ _ _ _ _ _ _ _).calls.mono ?_
        rintro e _ ⟨rfl, x3, rfl⟩
        go_wp2_with fail
        refine (C1 _ (by (repeat (first | (with_reducible exact SinceOf.refl _) | (with_reducible assumption) | (with_reducible refine SinceOf.alloc ?_ _) | (with_reducible refine SinceOf.drew ?_) | (with_reducible refine SinceOf.drewN ?_ _) | (with_reducible refine SinceOf.later ?_ _) | (with_reducible refine SinceOf.further ?_ _) | (with_reducible refine SinceOf.setCell ?_ (by first | exact Nat.le_refl _ | (simp; done) | omega | (simp; omega)) _))))).calls.mono ?_
        rintro e _ ⟨rfl, x4, rfl⟩
        go_wp2_with fail
        refine (C2 _ (by (repeat (first | (with_reducible exact SinceOf.refl _) | (with_reducible assumption) | (with_reducible refine SinceOf.alloc ?_ _) | (with_reducible refine SinceOf.drew ?_) | (with_reducible refine SinceOf.drewN ?_ _) | (with_reducible refine SinceOf.later ?_ _) | (with_reducible refine SinceOf.further ?_ _) | (with_reducible refine SinceOf.setCell ?_ (by first | exact Nat.le_refl _ | (simp; done) | omega | (simp; omega)) _))))).calls.mono ?_
        rintro e _ ⟨rfl, x5, rfl⟩
        go_wp2_with fail
        refine (C3 _ (by (repeat (first | (with_reducible exact SinceOf.refl _) | (with_reducible assumption) | (with_reducible refine SinceOf.alloc ?_ _) | (with_reducible refine SinceOf.drew ?_) | (with_reducible refine SinceOf.drewN ?_ _) | (with_reducible refine SinceOf.later ?_ _) | (with_reducible refine SinceOf.further ?_ _) | (with_reducible refine SinceOf.setCell ?_ (by first | exact Nat.le_refl _ | (simp; done) | omega | (simp; omega)) _))))).calls.mono ?_
        rintro e _ ⟨rfl, x6, rfl⟩
        go_wp2_with fail
        refine (C4 _ (by (repeat (first | (with_reducible exact SinceOf.refl _) | (with_reducible assumption) | (with_reducible refine SinceOf.alloc ?_ _) | (with_reducible refine SinceOf.drew ?_) | (with_reducible refine SinceOf.drewN ?_ _) | (with_reducible refine SinceOf.later ?_ _) | (with_reducible refine SinceOf.further ?_ _) | (with_reducible refine SinceOf.setCell ?_ (by first | exact Nat.le_refl _ | (simp; done) | omega | (simp; omega)) _))))).calls.mono ?_
        rintro e _ ⟨rfl, x7, rfl⟩
        go_wp2_with fail
        refine (C5 _ (by (repeat (first | (with_reducible exact SinceOf.refl _) | (with_reducible assumption) | (with_reducible refine SinceOf.alloc ?_ _) | (with_reducible refine SinceOf.drew ?_) | (with_reducible refine SinceOf.drewN ?_ _) | (with_reducible refine SinceOf.later ?_ _) | (with_reducible refine SinceOf.further ?_ _) | (with_reducible refine SinceOf.setCell ?_ (by first | exact Nat.le_refl _ | (simp; done) | omega | (simp; omega)) _))))).mono ?_
        rintro e _ ⟨⟨y1, rfl⟩, err, A', n', c', L, rfl, rfl, hL, hlen, hr⟩
        have HL := Lib.hid (And.intro hL hr)
        clear hL hr
        go_wp2_with fail
        refine (C6 _ (by (repeat (first | (with_reducible exact SinceOf.refl _) | (with_reducible assumption) | (with_reducible refine SinceOf.alloc ?_ _) | (with_reducible refine SinceOf.drew ?_) | (with_reducible refine SinceOf.drewN ?_ _) | (with_reducible refine SinceOf.later ?_ _) | (with_reducible refine SinceOf.further ?_ _) | (with_reducible refine SinceOf.setCell ?_ (by first | exact Nat.le_refl _ | (simp; done) | omega | (simp; omega)) _))))).mono ?_
        rintro e _ ⟨⟨y2, rfl⟩, err2, A2, n2, c2, L2, rfl, rfl, hL2, hlen2, hr2⟩
        obtain ⟨rfl, rfl⟩ := HL.out.2.unique hr2
        have HL2 := Lib.hid hL2
        clear hL2 hr2
        have CS := fun (W : World) (hW : SinceOf y2.wd W) => sameIvs_any A' A2 c' c2 L L W (by obtain ⟨z, rfl⟩ := hW; exact HL.out.1.of (SinceOf.further ⟨y2, rfl⟩ z)) (HL2.out.of hW) (by omega) (by omega)
        rw [show decide (L = L) = true from by simp] at CS
        go_wp2_with fail
        refine region_later (by kernel_rfl) (by kernel_rfl) ?_
        repeat (go_big_quiet_step ((first | (with_reducible refine Gives.later (CS _ (by (repeat (first | (with_reducible exact SinceOf.refl _) | (with_reducible assumption) | (with_reducible refine SinceOf.alloc ?_ _) | (with_reducible refine SinceOf.drew ?_) | (with_reducible refine SinceOf.drewN ?_ _) | (with_reducible refine SinceOf.later ?_ _) | (with_reducible refine SinceOf.further ?_ _) | (with_reducible refine SinceOf.setCell ?_ (by first | exact Nat.le_refl _ | (simp; done) | omega | (simp; omega)) _)))))) | (with_reducible refine Gives.later (V1 _ (by (repeat (first | (with_reducible exact SinceOf.refl _) | (with_reducible assumption) | (with_reducible refine SinceOf.alloc ?_ _) | (with_reducible refine SinceOf.drew ?_) | (with_reducible refine SinceOf.drewN ?_ _) | (with_reducible refine SinceOf.later ?_ _) | (with_reducible refine SinceOf.further ?_ _) | (with_reducible refine SinceOf.setCell ?_ (by first | exact Nat.le_refl _ | (simp; done) | omega | (simp; omega)) _)))))) | (with_reducible refine Gives.later (V2 _ (by (repeat (first | (with_reducible exact SinceOf.refl _) | (with_reducible assumption) | (with_reducible refine SinceOf.alloc ?_ _) | (with_reducible refine SinceOf.drew ?_) | (with_reducible refine SinceOf.drewN ?_ _) | (with_reducible refine SinceOf.later ?_ _) | (with_reducible refine SinceOf.further ?_ _) | (with_reducible refine SinceOf.setCell ?_ (by first | exact Nat.le_refl _ | (simp; done) | omega | (simp; omega)) _)))))) | (with_reducible refine Gives.later (O1 _ (by (repeat (first | (with_reducible exact SinceOf.refl _) | (with_reducible assumption) | (with_reducible refine SinceOf.alloc ?_ _) | (with_reducible refine SinceOf.drew ?_) | (with_reducible refine SinceOf.drewN ?_ _) | (with_reducible refine SinceOf.later ?_ _) | (with_reducible refine SinceOf.further ?_ _) | (with_reducible refine SinceOf.setCell ?_ (by first | exact Nat.le_refl _ | (simp; done) | omega | (simp; omega)) _)))))) | (with_reducible refine Gives.later (O2 _ (by (repeat (first | (with_reducible exact SinceOf.refl _) | (with_reducible assumption) | (with_reducible refine SinceOf.alloc ?_ _) | (with_reducible refine SinceOf.drew ?_) | (with_reducible refine SinceOf.drewN ?_ _) | (with_reducible refine SinceOf.later ?_ _) | (with_reducible refine SinceOf.further ?_ _) | (with_reducible refine SinceOf.setCell ?_ (by first | exact Nat.le_refl _ | (simp; done) | omega | (simp; omega)) _)))))))))
        refine wpQuiet_nil ?_
        rintro _ ⟨x8, rfl⟩
        go_wp2_with fail
        go_returns
        exact ⟨by simp, by (repeat (first | (with_reducible exact SinceOf.refl _) | (with_reducible assumption) | (with_reducible refine SinceOf.alloc ?_ _) | (with_reducible refine SinceOf.drew ?_) | (with_reducible refine SinceOf.drewN ?_ _) | (with_reducible refine SinceOf.later ?_ _) | (with_reducible refine SinceOf.further ?_ _) | (with_reducible refine SinceOf.setCell ?_ (by first | exact Nat.le_refl _ | (simp; done) | omega | (simp; omega)) _)))⟩
end
end Go.Proofs.Ytbceogoeoojdbaa
