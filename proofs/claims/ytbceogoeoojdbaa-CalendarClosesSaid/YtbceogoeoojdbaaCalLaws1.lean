/- The walks of the laws CalendarFinish and CalendarGrows of layer 51. -/
import Derived.Test.YtbceogoeoojdbaaAwake51
import Derived.Test.YtbceogoeoojdbaaCalPlain3
namespace Go.Proofs.Ytbceogoeoojdbaa
open Go.RowKit Go.Sort
set_option linter.unusedVariables false

abbrev askV (x y z : Int) : Value := .agg #[.int .i64 x, .int .i64 y, .int .i64 z]
theorem pairV_eq (x : Int × Int) : pairV x = .tuple #[.int .i64 x.1, .int .i64 x.2] := rfl

section
variable {P : Int} {A B : Option Addr} {n c m d : Nat} {S D : List (Int × Int)} {w : World}
set_option maxRecDepth 100000 in
set_option maxHeartbeats 4000000 in
theorem calFinish_law (x y k : Int) (h : IsCal w P A n c B m d S D) : Yields Try.prog 10 #[CalV P A n c B m d, askV x y k] w (.bool true) := by
  apply Yields.ret
  have FW := fun W hW => few_any (w := W) (h.of hW)
  have C1 := fun W hW => finish_any (w := W) x k (h.of hW)
  have C2 := fun W hW => refFinish_any (w := W) x k (h.of hW)
  have C3 := fun W hW => latest_any (w := W) x k (h.of hW)
  have C4 := fun W hW => refLatest_any (w := W) x k (h.of hW)
  simp only [pairV_eq] at C1 C2 C3 C4
  generalize finishV P S D x k = r at *
  generalize latestV P S D x k = s at *
  obtain ⟨r1, r2⟩ := r
  obtain ⟨s1, s2⟩ := s
  simp only at C1 C2 C3 C4
  generalize (decide (S.length ≤ 25) && decide (D.length ≤ 25)) = few at *
  clear h
  cases few
  · go_enter Try.func10, Try.ntmps10
    go_wp2_with fail
    refine (awake51_any _).calls.mono ?_
    rintro e _ ⟨rfl, x1, rfl⟩
    go_wp2_with fail
    refine (FW _ (by (repeat (first | (with_reducible exact SinceOf.refl _) | (with_reducible assumption) | (with_reducible refine SinceOf.alloc ?_ _) | (with_reducible refine SinceOf.drew ?_) | (with_reducible refine SinceOf.drewN ?_ _) | (with_reducible refine SinceOf.later ?_ _) | (with_reducible refine SinceOf.further ?_ _) | (with_reducible refine SinceOf.setCell ?_ (by first | exact Nat.le_refl _ | (simp; done) | omega | (simp; omega)) _))))).calls.mono ?_
    rintro e _ ⟨rfl, x2, rfl⟩
    go_wp2_with fail
    go_returns
    exact ⟨rfl, by (repeat (first | (with_reducible exact SinceOf.refl _) | (with_reducible assumption) | (with_reducible refine SinceOf.alloc ?_ _) | (with_reducible refine SinceOf.drew ?_) | (with_reducible refine SinceOf.drewN ?_ _) | (with_reducible refine SinceOf.later ?_ _) | (with_reducible refine SinceOf.further ?_ _) | (with_reducible refine SinceOf.setCell ?_ (by first | exact Nat.le_refl _ | (simp; done) | omega | (simp; omega)) _)))⟩
  · have key : (decide (20000 < x) = true ∧ decide (x ≤ 1000000) = true) ∨ (decide (20000 < x) = true ∧ decide (x ≤ 1000000) = false) ∨ (decide (20000 < x) = false) := by
      simp only [decide_eq_true_eq, decide_eq_false_iff_not]; omega
    rcases key with ⟨k1, k2⟩ | key
    · go_enter Try.func10, Try.ntmps10
      go_wp2_with fail
      refine (awake51_any _).calls.mono ?_
      rintro e _ ⟨rfl, x1, rfl⟩
      go_wp2_with fail
      refine (FW _ (by (repeat (first | (with_reducible exact SinceOf.refl _) | (with_reducible assumption) | (with_reducible refine SinceOf.alloc ?_ _) | (with_reducible refine SinceOf.drew ?_) | (with_reducible refine SinceOf.drewN ?_ _) | (with_reducible refine SinceOf.later ?_ _) | (with_reducible refine SinceOf.further ?_ _) | (with_reducible refine SinceOf.setCell ?_ (by first | exact Nat.le_refl _ | (simp; done) | omega | (simp; omega)) _))))).calls.mono ?_
      rintro e _ ⟨rfl, x2, rfl⟩
      go_wp2_with fail
      go_returns
      exact ⟨rfl, by (repeat (first | (with_reducible exact SinceOf.refl _) | (with_reducible assumption) | (with_reducible refine SinceOf.alloc ?_ _) | (with_reducible refine SinceOf.drew ?_) | (with_reducible refine SinceOf.drewN ?_ _) | (with_reducible refine SinceOf.later ?_ _) | (with_reducible refine SinceOf.further ?_ _) | (with_reducible refine SinceOf.setCell ?_ (by first | exact Nat.le_refl _ | (simp; done) | omega | (simp; omega)) _)))⟩
    · rcases key with ⟨k1, k2⟩ | k1
      all_goals
        go_enter Try.func10, Try.ntmps10
        go_wp2_with fail
        refine (awake51_any _).calls.mono ?_
        rintro e _ ⟨rfl, x1, rfl⟩
        go_wp2_with fail
        refine (FW _ (by (repeat (first | (with_reducible exact SinceOf.refl _) | (with_reducible assumption) | (with_reducible refine SinceOf.alloc ?_ _) | (with_reducible refine SinceOf.drew ?_) | (with_reducible refine SinceOf.drewN ?_ _) | (with_reducible refine SinceOf.later ?_ _) | (with_reducible refine SinceOf.further ?_ _) | (with_reducible refine SinceOf.setCell ?_ (by first | exact Nat.le_refl _ | (simp; done) | omega | (simp; omega)) _))))).calls.mono ?_
        rintro e _ ⟨rfl, x2, rfl⟩
        go_wp2_with fail
        refine region_later (by kernel_rfl) (by kernel_rfl) ?_
        repeat (go_big_quiet_step ((first | (with_reducible refine Gives.later (own_any _ _ _ _ _ _ _ _)) | (with_reducible refine Gives.later (C1 _ (by (repeat (first | (with_reducible exact SinceOf.refl _) | (with_reducible assumption) | (with_reducible refine SinceOf.alloc ?_ _) | (with_reducible refine SinceOf.drew ?_) | (with_reducible refine SinceOf.drewN ?_ _) | (with_reducible refine SinceOf.later ?_ _) | (with_reducible refine SinceOf.further ?_ _) | (with_reducible refine SinceOf.setCell ?_ (by first | exact Nat.le_refl _ | (simp; done) | omega | (simp; omega)) _)))))))))
        refine wpQuiet_nil ?_
        rintro _ ⟨x3, rfl⟩
        go_wp2_with fail
        refine (C2 _ (by (repeat (first | (with_reducible exact SinceOf.refl _) | (with_reducible assumption) | (with_reducible refine SinceOf.alloc ?_ _) | (with_reducible refine SinceOf.drew ?_) | (with_reducible refine SinceOf.drewN ?_ _) | (with_reducible refine SinceOf.later ?_ _) | (with_reducible refine SinceOf.further ?_ _) | (with_reducible refine SinceOf.setCell ?_ (by first | exact Nat.le_refl _ | (simp; done) | omega | (simp; omega)) _))))).calls.mono ?_
        rintro e _ ⟨rfl, x4, rfl⟩
        go_wp2_with fail
        refine region_later (by kernel_rfl) (by kernel_rfl) ?_
        repeat (go_big_quiet_step ((first | (with_reducible refine Gives.later (own_any _ _ _ _ _ _ _ _)) | (with_reducible refine Gives.later (C3 _ (by (repeat (first | (with_reducible exact SinceOf.refl _) | (with_reducible assumption) | (with_reducible refine SinceOf.alloc ?_ _) | (with_reducible refine SinceOf.drew ?_) | (with_reducible refine SinceOf.drewN ?_ _) | (with_reducible refine SinceOf.later ?_ _) | (with_reducible refine SinceOf.further ?_ _) | (with_reducible refine SinceOf.setCell ?_ (by first | exact Nat.le_refl _ | (simp; done) | omega | (simp; omega)) _)))))))))
        refine wpQuiet_nil ?_
        rintro _ ⟨x5, rfl⟩
        go_wp2_with fail
        refine (C4 _ (by (repeat (first | (with_reducible exact SinceOf.refl _) | (with_reducible assumption) | (with_reducible refine SinceOf.alloc ?_ _) | (with_reducible refine SinceOf.drew ?_) | (with_reducible refine SinceOf.drewN ?_ _) | (with_reducible refine SinceOf.later ?_ _) | (with_reducible refine SinceOf.further ?_ _) | (with_reducible refine SinceOf.setCell ?_ (by first | exact Nat.le_refl _ | (simp; done) | omega | (simp; omega)) _))))).calls.mono ?_
        rintro e _ ⟨rfl, x6, rfl⟩
        go_wp2_with fail
        go_returns
        exact ⟨rfl, by (repeat (first | (with_reducible exact SinceOf.refl _) | (with_reducible assumption) | (with_reducible refine SinceOf.alloc ?_ _) | (with_reducible refine SinceOf.drew ?_) | (with_reducible refine SinceOf.drewN ?_ _) | (with_reducible refine SinceOf.later ?_ _) | (with_reducible refine SinceOf.further ?_ _) | (with_reducible refine SinceOf.setCell ?_ (by first | exact Nat.le_refl _ | (simp; done) | omega | (simp; omega)) _)))⟩
end
end Go.Proofs.Ytbceogoeoojdbaa
