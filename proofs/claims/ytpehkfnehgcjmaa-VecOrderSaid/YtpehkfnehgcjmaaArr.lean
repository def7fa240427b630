/- The walks of the laws of layer 6 over arrays of vectors. -/
import Derived.Test.YtpehkfnehgcjmaaAwake06
import Derived.Test.YtpehkfnehgcjmaaPlain06
import Derived.Lib.Hide
import Derived.Outline
import Derived.Deep.DeepCutAuto
import Derived.Deep.DrawnRows
attribute [local go_sem ↓] Go.wp_at_zero Go.wp_at_succ
namespace Go.Proofs.Ytpehkfnehgcjmaa
open Go.RowKit
set_option linter.unusedVariables false

set_option maxRecDepth 100000 in
theorem vecCompare_any (a0 a1 b0 b1 c0 c1 n : Int) (_ : i64 n) (w : World) : Yields Try.prog 3 #[.agg #[.int .i64 a0, .int .i64 a1, .int .i64 b0, .int .i64 b1, .int .i64 c0, .int .i64 c1], .int .i64 n] w (.bool true) := by
  have E1 : decide (vcmp a0 a1 b0 b1 < 0) = lessB a0 a1 b0 b1 := by
    unfold lessB vcmp or2
    rcases cmpi_cases a1 b1 with ⟨h1, e⟩ | ⟨h1, h2, e⟩ | ⟨h1, h2, e⟩ <;> rcases cmpi_cases a0 b0 with ⟨g1, f⟩ | ⟨g1, g2, f⟩ | ⟨g1, g2, f⟩ <;> rw [e, f] <;> simp <;> omega
  apply Yields.ret
  go_enter Try.func3, Try.ntmps3
  go_wp2_with fail
  refine (awake_any _).calls.mono ?_
  rintro e _ ⟨rfl, x1, rfl⟩
  go_wp2_with fail
  refine region_later (by kernel_rfl) (by kernel_rfl) ?_
  repeat (go_big_quiet_step ((first | refine Gives.later (turn_any _ _ _ _ _ _ _) | refine Gives.later (refTurn_any _ _ _ _ _ _ _) | refine Gives.later (compare_any _ _ _ _ _) | refine Gives.later (refCompare_any _ _ _ _ _) | refine Gives.later (less_any _ _ _ _ _) | refine Gives.later (refLess_any _ _ _ _ _) | refine Gives.later (within_any _ _ _ _) | refine Gives.later (refWithin_any _ _ _ _))))
  refine wpQuiet_nil ?_
  rintro _ ⟨x2, rfl⟩
  go_wp2_with fail
  go_returns
  exact ⟨rfl, by (repeat (first | (with_reducible exact SinceOf.refl _) | (with_reducible assumption) | (with_reducible refine SinceOf.alloc ?_ _) | (with_reducible refine SinceOf.drew ?_) | (with_reducible refine SinceOf.drewN ?_ _) | (with_reducible refine SinceOf.later ?_ _) | (with_reducible refine SinceOf.further ?_ _) | (with_reducible refine SinceOf.setCell ?_ (by first | exact Nat.le_refl _ | (simp; done) | omega | (simp; omega)) _)))⟩

theorem small_any (a0 a1 b0 b1 c0 c1 d0 d1 : Int) (w : World) : Gives Try.prog 20 #[.agg #[.int .i64 a0, .int .i64 a1, .int .i64 b0, .int .i64 b1, .int .i64 c0, .int .i64 c1, .int .i64 d0, .int .i64 d1]] w
    (.bool (withinB a0 a1 268435456 && (withinB b0 b1 268435456 && (withinB c0 c1 268435456 && withinB d0 d1 268435456)))) := by
  apply Gives.ret
  generalize hm : (268435456 : Int) = m
  have key : (withinB a0 a1 m = false) ∨ (withinB a0 a1 m = true ∧ withinB b0 b1 m = false) ∨ (withinB a0 a1 m = true ∧ withinB b0 b1 m = true ∧ withinB c0 c1 m = false) ∨
     (withinB a0 a1 m = true ∧ withinB b0 b1 m = true ∧ withinB c0 c1 m = true ∧ withinB d0 d1 m = false) ∨ (withinB a0 a1 m = true ∧ withinB b0 b1 m = true ∧ withinB c0 c1 m = true ∧ withinB d0 d1 m = true) := by
    cases withinB a0 a1 m <;> cases withinB b0 b1 m <;> cases withinB c0 c1 m <;> cases withinB d0 d1 m <;> simp
  subst hm
  have v0 : (Value.bool (withinB a0 a1 268435456 && (withinB b0 b1 268435456 && (withinB c0 c1 268435456 && withinB d0 d1 268435456)))) = .bool (withinB a0 a1 268435456 && (withinB b0 b1 268435456 && (withinB c0 c1 268435456 && withinB d0 d1 268435456))) := rfl
  rcases key with h | ⟨h1, h⟩ | ⟨h1, h2, h⟩ | ⟨h1, h2, h3, h⟩ | ⟨h1, h2, h3, h⟩
  all_goals
    rw [h]
    try rw [h1]
    try rw [h2]
    try rw [h3]
    simp only [Bool.and_false, Bool.false_and, Bool.and_true]
    clear v0
    go_enter Try.func20, Try.ntmps20
    go_wp2
    refine wp_loop_rounds 5 ?_
    iterate 5 (try (rw [rounds_succ]; (go_wp2_with fail); refine (refWithin_any _ _ _ _).calls.mono ?_; rintro e _ ⟨rfl, x, rfl⟩; (go_wp2_with fail)))
    try (rw [rounds_succ]; (go_wp2_with fail))
    go_returns
    exact ⟨rfl, by (repeat (first | (with_reducible exact LaterOf.refl _) | (with_reducible refine LaterOf.alloc ?_ _) | (with_reducible refine LaterOf.drew ?_) | (with_reducible refine LaterOf.drewN ?_ _) | (with_reducible refine LaterOf.later ?_ _) | (with_reducible refine LaterOf.setCell ?_ (by first | exact Nat.le_refl _ | (simp; done) | omega | (simp; omega)) _)))⟩

end Go.Proofs.Ytpehkfnehgcjmaa
