/- The walks of the laws of layer 6 over numbers alone. -/
import Derived.Test.YtpehkfnehgcjmaaAwake06
import Derived.Test.YtpehkfnehgcjmaaWrap
namespace Go.Proofs.Ytpehkfnehgcjmaa
open Go.RowKit
set_option linter.unusedVariables false

set_option maxRecDepth 100000 in
theorem arithmetic_any (a0 a1 : Int) (_ : i64 a0) (_ : i64 a1) (b0 b1 : Int) (_ : i64 b0) (_ : i64 b1) (n : Int) (_ : i64 n) (w : World) : Yields Try.prog 8 #[vv a0 a1, vv b0 b1, .int .i64 n] w (.bool true) := by
  apply Yields.ret
  go_enter Try.func8, Try.ntmps8
  go_wp2_with fail
  refine (awake_any _).calls.mono ?_
  rintro e _ ⟨rfl, x1, rfl⟩
  go_wp2_with fail
  refine region_later (by kernel_rfl) (by kernel_rfl) ?_
  repeat (go_big_quiet_step ((first | refine Gives.later (add_any _ _ _ _ _) | refine Gives.later (refAdd_any _ _ _ _ _) | refine Gives.later (sub_any _ _ _ _ _) | refine Gives.later (refSub_any _ _ _ _ _) | refine Gives.later (neg_any _ _ _) | refine Gives.later (refNeg_any _ _ _) | refine Gives.later (scale_any _ _ _ _) | refine Gives.later (refScale_any _ _ _ _) | refine Gives.later (dot_any _ _ _ _ _) | refine Gives.later (refDot_any _ _ _ _ _) | refine Gives.later (cross_any _ _ _ _ _) | refine Gives.later (refCross_any _ _ _ _ _) | refine Gives.later (maxNorm_any _ _ _) | refine Gives.later (refMaxNorm_any _ _ _))))
  refine wpQuiet_nil ?_
  rintro _ ⟨x2, rfl⟩
  go_wp2_with fail
  go_returns
  exact ⟨rfl, by (repeat (first | (with_reducible exact SinceOf.refl _) | (with_reducible assumption) | (with_reducible refine SinceOf.alloc ?_ _) | (with_reducible refine SinceOf.drew ?_) | (with_reducible refine SinceOf.drewN ?_ _) | (with_reducible refine SinceOf.later ?_ _) | (with_reducible refine SinceOf.further ?_ _) | (with_reducible refine SinceOf.setCell ?_ (by first | exact Nat.le_refl _ | (simp; done) | omega | (simp; omega)) _)))⟩

set_option maxRecDepth 100000 in
theorem products_any (a0 a1 : Int) (_ : i64 a0) (_ : i64 a1) (b0 b1 : Int) (_ : i64 b0) (_ : i64 b1) (c0 c1 : Int) (_ : i64 c0) (_ : i64 c1) (w : World) : Yields Try.prog 5 #[vv a0 a1, vv b0 b1, vv c0 c1] w (.bool true) := by
  have E1 := cross_anti a0 a1 b0 b1
  have E2 := cross_self a0 a1
  have E3 := dot_symm a0 a1 b0 b1
  have E4 := cross_add a0 a1 b0 b1 c0 c1
  have E5 := dot_add a0 a1 b0 b1 c0 c1
  apply Yields.ret
  go_enter Try.func5, Try.ntmps5
  go_wp2_with fail
  refine (awake_any _).calls.mono ?_
  rintro e _ ⟨rfl, x1, rfl⟩
  go_wp2_with fail
  refine (add_any _ _ _ _ _).calls.mono ?_
  rintro e _ ⟨rfl, x2, rfl⟩
  go_wp2_with fail
  refine region_later (by kernel_rfl) (by kernel_rfl) ?_
  repeat (go_big_quiet_step ((first | refine Gives.later (dot_any _ _ _ _ _) | refine Gives.later (cross_any _ _ _ _ _) )))
  refine wpQuiet_nil ?_
  rintro _ ⟨x2, rfl⟩
  go_wp2_with fail
  go_returns
  exact ⟨rfl, by (repeat (first | (with_reducible exact SinceOf.refl _) | (with_reducible assumption) | (with_reducible refine SinceOf.alloc ?_ _) | (with_reducible refine SinceOf.drew ?_) | (with_reducible refine SinceOf.drewN ?_ _) | (with_reducible refine SinceOf.later ?_ _) | (with_reducible refine SinceOf.further ?_ _) | (with_reducible refine SinceOf.setCell ?_ (by first | exact Nat.le_refl _ | (simp; done) | omega | (simp; omega)) _)))⟩
end Go.Proofs.Ytpehkfnehgcjmaa
