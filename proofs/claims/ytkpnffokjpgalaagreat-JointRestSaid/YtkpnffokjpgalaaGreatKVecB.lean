/- Contracts of package vec that compare: Compare, Less, Turn, Within, MaxNorm, and of the reference's. -/
import Derived.Test.YtkpnffokjpgalaaGreatKVecA
import Derived.Deep.RegionHeld3
import Derived.WalkLawsBesides
namespace Go.Proofs.YtkpnffokjpgalaaGreat
set_option linter.unusedVariables false
set_option linter.unusedSimpArgs false
open Go.RowKit

def cmpi (a b : Int) : Int := if a < b then -1 else if b < a then 1 else 0
def or2 (a b : Int) : Int := if a = 0 then b else a
def vcmp (a b c d : Int) : Int := or2 (cmpi b d) (cmpi a c)
def turnI (a b c d e f : Int) : Int := cmpi (crossI (wsub c a) (wsub d b) (wsub e a) (wsub f b)) 0
def iabs (n : Int) : Int := if 0 ≤ n then n else wneg n
def imax (a b : Int) : Int := if a < b then b else a
def imin (a b : Int) : Int := if b < a then b else a
def withinB (x y m : Int) : Bool := decide (wneg m ≤ x) && decide (x ≤ m) && decide (wneg m ≤ y) && decide (y ≤ m)

theorem cmpi_cases (a b : Int) : (a < b ∧ cmpi a b = -1) ∨ (¬ a < b ∧ b < a ∧ cmpi a b = 1) ∨ (¬ a < b ∧ ¬ b < a ∧ cmpi a b = 0) := by
  unfold cmpi; by_cases h1 : a < b
  · exact .inl ⟨h1, if_pos h1⟩
  · by_cases h2 : b < a
    · exact .inr (.inl ⟨h1, h2, by rw [if_neg h1, if_pos h2]⟩)
    · exact .inr (.inr ⟨h1, h2, by rw [if_neg h1, if_neg h2]⟩)

theorem isNaN_any (a : Int) (w : World) : Calls Tryz.prog 81 #[.int .i64 a] w fun e w' => e = .returned (.bool false) ∧ w = w' := by
  go_enter Tryz.func81, Tryz.ntmps81
  go_wp2
  go_returns
  exact ⟨by simp, rfl⟩
theorem cmpCompare_any (a b : Int) (w : World) : Calls Tryz.prog 37 #[.int .i64 a, .int .i64 b] w fun e w' => e = .returned (.int .i64 (cmpi a b)) ∧ w = w' := by
  rcases cmpi_cases a b with ⟨h1, e⟩ | ⟨h1, h2, e⟩ | ⟨h1, h2, e⟩ <;> rw [e] <;> clear e <;> go_enter Tryz.func37, Tryz.ntmps37 <;> go_wp2 <;> go_returns <;> exact ⟨rfl, rfl⟩
theorem sign_any (a : Int) (w : World) : Calls Tryz.prog 93 #[.int .i64 a] w fun e w' => e = .returned (.int .i64 (cmpi a 0)) ∧ w = w' := by
  rcases cmpi_cases a 0 with ⟨h1, e⟩ | ⟨h1, h2, e⟩ | ⟨h1, h2, e⟩ <;> rw [e] <;> clear e <;> go_enter Tryz.func93, Tryz.ntmps93 <;> go_wp2 <;> go_returns <;> exact ⟨rfl, rfl⟩
theorem abs_any (a : Int) (w : World) : Calls Tryz.prog 88 #[.int .i64 a] w fun e w' => e = .returned (.int .i64 (iabs a)) ∧ w = w' := by
  by_cases h : 0 ≤ a
  · rw [show iabs a = a from if_pos h]; go_enter Tryz.func88, Tryz.ntmps88 <;> go_wp2 <;> go_returns <;> exact ⟨rfl, rfl⟩
  · rw [show iabs a = wneg a from if_neg h]; go_enter Tryz.func88, Tryz.ntmps88 <;> go_wp2 <;> go_returns <;> exact ⟨rfl, rfl⟩
theorem refAbs_any (a : Int) (w : World) : Calls Tryz.prog 47 #[.int .i64 a] w fun e w' => e = .returned (.int .i64 (iabs a)) ∧ w = w' := by
  by_cases h : 0 ≤ a
  · rw [show iabs a = a from if_pos h]; go_enter Tryz.func47, Tryz.ntmps47 <;> go_wp2 <;> go_returns <;> exact ⟨rfl, rfl⟩
  · rw [show iabs a = wneg a from if_neg h]; go_enter Tryz.func47, Tryz.ntmps47 <;> go_wp2 <;> go_returns <;> exact ⟨rfl, rfl⟩
theorem cmpOr_any (a b : Int) (g c : Nat) (w : World) (h0 : w.cell? ⟨g, 0, none⟩ = some (.int .i64 a)) (h1 : w.cell? ⟨g, 1, none⟩ = some (.int .i64 b)) :
    Calls Tryz.prog 140 #[.slice (some ⟨g, 0, none⟩) 2 c] w fun e w' => e = .returned (.int .i64 (or2 a b)) ∧ w = w' := by
  by_cases ha : a = 0
  · subst ha
    by_cases hb : b = 0
    · subst hb
      go_enter Tryz.func140, Tryz.ntmps140
      go_wp2
      go_rounds 3
      go_returns
      exact ⟨by simp [or2], rfl⟩
    · go_enter Tryz.func140, Tryz.ntmps140
      go_wp2
      go_rounds 3
      go_returns
      exact ⟨by simp [or2], rfl⟩
  · go_enter Tryz.func140, Tryz.ntmps140
    go_wp2
    go_rounds 3
    go_returns
    exact ⟨by simp [or2, ha], rfl⟩
theorem compare_any (a b c d : Int) (w : World) : Gives Tryz.prog 118 #[vv a b, vv c d] w (.int .i64 (vcmp a b c d)) := by
  apply Gives.ret
  go_enter Tryz.func118, Tryz.ntmps118
  go_wp2_with fail
  go_region_held3 (fun w' => w'.cell? ⟨w.heap.size, 0, none⟩ = some (.int .i64 a) ∧ w'.cell? ⟨w.heap.size, 1, none⟩ = some (.int .i64 b) ∧ w'.cell? ⟨w.heap.size + 1, 0, none⟩ = some (.int .i64 c) ∧ w'.cell? ⟨w.heap.size + 1, 1, none⟩ = some (.int .i64 d)) (go_keep)
    (first | (go_at_call 37; refine (cmpCompare_any _ _ _).mono ?_; rintro e w' ⟨rfl, rfl⟩) | (go_at_call 140; refine (cmpOr_any (cmpi b d) (cmpi a c) _ _ _ (by simp [go_sem]) (by simp [go_sem])).mono ?_; rintro e w' ⟨rfl, rfl⟩))
  go_wp2_with fail
  go_returns
  exact ⟨rfl, by (repeat (first | (with_reducible exact LaterOf.refl _) | (with_reducible refine LaterOf.alloc ?_ _) | (with_reducible refine LaterOf.drew ?_) | (with_reducible refine LaterOf.drewN ?_ _) | (with_reducible refine LaterOf.later ?_ _) | (with_reducible refine LaterOf.setCell ?_ (by first | exact Nat.le_refl _ | (simp; done) | omega | (simp; omega)) _)))⟩
theorem less_any (a b c d : Int) (w : World) : Gives Tryz.prog 117 #[vv a b, vv c d] w (.bool (decide (vcmp a b c d < 0))) := by
  apply Gives.ret
  go_enter Tryz.func117, Tryz.ntmps117
  go_wp2_with fail
  refine (compare_any _ _ _ _ _).calls.mono ?_
  rintro e _ ⟨rfl, x1, rfl⟩
  go_wp2_with fail
  go_returns
  exact ⟨rfl, by (repeat (first | (with_reducible exact LaterOf.refl _) | (with_reducible refine LaterOf.alloc ?_ _) | (with_reducible refine LaterOf.drew ?_) | (with_reducible refine LaterOf.drewN ?_ _) | (with_reducible refine LaterOf.later ?_ _) | (with_reducible refine LaterOf.setCell ?_ (by first | exact Nat.le_refl _ | (simp; done) | omega | (simp; omega)) _)))⟩
theorem turn_any (a b c d e f : Int) (w : World) : Gives Tryz.prog 76 #[vv a b, vv c d, vv e f] w (.int .i64 (turnI a b c d e f)) := by
  apply Gives.ret
  go_enter Tryz.func76, Tryz.ntmps76
  go_wp2_with fail
  refine region_later (by kernel_rfl) (by kernel_rfl) ?_
  repeat (go_big_quiet_step ((first | refine Gives.later (sub_any _ _ _ _ _) | refine Gives.later (cross_any _ _ _ _ _) | refine later_same (cmpCompare_any _ _ _))))
  refine wpQuiet_nil ?_
  rintro _ ⟨x2, rfl⟩
  go_wp2_with fail
  go_returns
  exact ⟨rfl, by (repeat (first | (with_reducible exact LaterOf.refl _) | (with_reducible refine LaterOf.alloc ?_ _) | (with_reducible refine LaterOf.drew ?_) | (with_reducible refine LaterOf.drewN ?_ _) | (with_reducible refine LaterOf.later ?_ _) | (with_reducible refine LaterOf.setCell ?_ (by first | exact Nat.le_refl _ | (simp; done) | omega | (simp; omega)) _)))⟩
theorem maxNorm_any (a b : Int) (w : World) : Gives Tryz.prog 53 #[vv a b] w (.int .i64 (imax (iabs a) (iabs b))) := by
  apply Gives.ret
  unfold imax
  by_cases h : iabs a < iabs b
  · rw [if_pos h]
    go_enter Tryz.func53, Tryz.ntmps53
    go_wp2_with fail
    refine region_later (by kernel_rfl) (by kernel_rfl) ?_
    repeat (go_big_quiet_step ((first | refine later_same (abs_any _ _))))
    refine wpQuiet_nil ?_
    rintro _ ⟨x2, rfl⟩
    go_wp2_with fail
    go_returns
    exact ⟨rfl, by (repeat (first | (with_reducible exact LaterOf.refl _) | (with_reducible refine LaterOf.alloc ?_ _) | (with_reducible refine LaterOf.drew ?_) | (with_reducible refine LaterOf.drewN ?_ _) | (with_reducible refine LaterOf.later ?_ _) | (with_reducible refine LaterOf.setCell ?_ (by first | exact Nat.le_refl _ | (simp; done) | omega | (simp; omega)) _)))⟩
  · rw [if_neg h]
    go_enter Tryz.func53, Tryz.ntmps53
    go_wp2_with fail
    refine region_later (by kernel_rfl) (by kernel_rfl) ?_
    repeat (go_big_quiet_step ((first | refine later_same (abs_any _ _))))
    refine wpQuiet_nil ?_
    rintro _ ⟨x2, rfl⟩
    go_wp2_with fail
    go_returns
    exact ⟨rfl, by (repeat (first | (with_reducible exact LaterOf.refl _) | (with_reducible refine LaterOf.alloc ?_ _) | (with_reducible refine LaterOf.drew ?_) | (with_reducible refine LaterOf.drewN ?_ _) | (with_reducible refine LaterOf.later ?_ _) | (with_reducible refine LaterOf.setCell ?_ (by first | exact Nat.le_refl _ | (simp; done) | omega | (simp; omega)) _)))⟩
theorem refMaxNorm_any (a b : Int) (w : World) : Gives Tryz.prog 54 #[vv a b] w (.int .i64 (imax (iabs a) (iabs b))) := by
  apply Gives.ret
  unfold imax
  by_cases h : iabs a < iabs b
  · rw [if_pos h]
    go_enter Tryz.func54, Tryz.ntmps54
    go_wp2_with fail
    refine region_later (by kernel_rfl) (by kernel_rfl) ?_
    repeat (go_big_quiet_step ((first | refine later_same (refAbs_any _ _))))
    refine wpQuiet_nil ?_
    rintro _ ⟨x2, rfl⟩
    go_wp2_with fail
    go_returns
    exact ⟨rfl, by (repeat (first | (with_reducible exact LaterOf.refl _) | (with_reducible refine LaterOf.alloc ?_ _) | (with_reducible refine LaterOf.drew ?_) | (with_reducible refine LaterOf.drewN ?_ _) | (with_reducible refine LaterOf.later ?_ _) | (with_reducible refine LaterOf.setCell ?_ (by first | exact Nat.le_refl _ | (simp; done) | omega | (simp; omega)) _)))⟩
  · rw [if_neg h]
    go_enter Tryz.func54, Tryz.ntmps54
    go_wp2_with fail
    refine region_later (by kernel_rfl) (by kernel_rfl) ?_
    repeat (go_big_quiet_step ((first | refine later_same (refAbs_any _ _))))
    refine wpQuiet_nil ?_
    rintro _ ⟨x2, rfl⟩
    go_wp2_with fail
    go_returns
    exact ⟨rfl, by (repeat (first | (with_reducible exact LaterOf.refl _) | (with_reducible refine LaterOf.alloc ?_ _) | (with_reducible refine LaterOf.drew ?_) | (with_reducible refine LaterOf.drewN ?_ _) | (with_reducible refine LaterOf.later ?_ _) | (with_reducible refine LaterOf.setCell ?_ (by first | exact Nat.le_refl _ | (simp; done) | omega | (simp; omega)) _)))⟩
theorem within_any (x y m : Int) (w : World) : Gives Tryz.prog 85 #[vv x y, .int .i64 m] w (.bool (withinB x y m)) := by
  apply Gives.ret
  have key : (¬ wneg m ≤ x ∧ withinB x y m = false) ∨ (wneg m ≤ x ∧ ¬ x ≤ m ∧ withinB x y m = false) ∨ (wneg m ≤ x ∧ x ≤ m ∧ ¬ wneg m ≤ y ∧ withinB x y m = false) ∨
      (wneg m ≤ x ∧ x ≤ m ∧ wneg m ≤ y ∧ ¬ y ≤ m ∧ withinB x y m = false) ∨ (wneg m ≤ x ∧ x ≤ m ∧ wneg m ≤ y ∧ y ≤ m ∧ withinB x y m = true) := by
    unfold withinB
    by_cases h1 : wneg m ≤ x <;> by_cases h2 : x ≤ m <;> by_cases h3 : wneg m ≤ y <;> by_cases h4 : y ≤ m <;> simp [h1, h2, h3, h4]
  have nm : wrap64 (-m) = wneg m := rfl
  rcases key with ⟨h1, e⟩ | ⟨h1, h2, e⟩ | ⟨h1, h2, h3, e⟩ | ⟨h1, h2, h3, h4, e⟩ | ⟨h1, h2, h3, h4, e⟩ <;> rw [e] <;> clear e <;> go_enter Tryz.func85, Tryz.ntmps85 <;> go_wp2 <;> go_returns <;> exact ⟨rfl, by (repeat (first | (with_reducible exact LaterOf.refl _) | (with_reducible refine LaterOf.alloc ?_ _) | (with_reducible refine LaterOf.drew ?_) | (with_reducible refine LaterOf.drewN ?_ _) | (with_reducible refine LaterOf.later ?_ _) | (with_reducible refine LaterOf.setCell ?_ (by first | exact Nat.le_refl _ | (simp; done) | omega | (simp; omega)) _)))⟩
theorem refWithin_any (x y m : Int) (w : World) : Gives Tryz.prog 48 #[vv x y, .int .i64 m] w (.bool (withinB x y m)) := by
  apply Gives.ret
  have key : (¬ wneg m ≤ x ∧ withinB x y m = false) ∨ (wneg m ≤ x ∧ ¬ x ≤ m ∧ withinB x y m = false) ∨ (wneg m ≤ x ∧ x ≤ m ∧ ¬ wneg m ≤ y ∧ withinB x y m = false) ∨
      (wneg m ≤ x ∧ x ≤ m ∧ wneg m ≤ y ∧ ¬ y ≤ m ∧ withinB x y m = false) ∨ (wneg m ≤ x ∧ x ≤ m ∧ wneg m ≤ y ∧ y ≤ m ∧ withinB x y m = true) := by
    unfold withinB
    by_cases h1 : wneg m ≤ x <;> by_cases h2 : x ≤ m <;> by_cases h3 : wneg m ≤ y <;> by_cases h4 : y ≤ m <;> simp [h1, h2, h3, h4]
  have nm : wrap64 (-m) = wneg m := rfl
  rcases key with ⟨h1, e⟩ | ⟨h1, h2, e⟩ | ⟨h1, h2, h3, e⟩ | ⟨h1, h2, h3, h4, e⟩ | ⟨h1, h2, h3, h4, e⟩ <;> rw [e] <;> clear e <;> go_enter Tryz.func48, Tryz.ntmps48 <;> go_wp2 <;> go_returns <;> exact ⟨rfl, by (repeat (first | (with_reducible exact LaterOf.refl _) | (with_reducible refine LaterOf.alloc ?_ _) | (with_reducible refine LaterOf.drew ?_) | (with_reducible refine LaterOf.drewN ?_ _) | (with_reducible refine LaterOf.later ?_ _) | (with_reducible refine LaterOf.setCell ?_ (by first | exact Nat.le_refl _ | (simp; done) | omega | (simp; omega)) _)))⟩
def lessB (a b c d : Int) : Bool := decide (b < d) || (b == d && decide (a < c))
theorem refLess_any (a b c d : Int) (w : World) : Gives Tryz.prog 120 #[vv a b, vv c d] w (.bool (lessB a b c d)) := by
  apply Gives.ret
  have key : (b < d ∧ lessB a b c d = true) ∨ (¬ b < d ∧ (b == d) = false ∧ lessB a b c d = false) ∨ (¬ b < d ∧ (b == d) = true ∧ a < c ∧ lessB a b c d = true) ∨ (¬ b < d ∧ (b == d) = true ∧ ¬ a < c ∧ lessB a b c d = false) := by
    unfold lessB
    by_cases h1 : b < d <;> by_cases h2 : b = d <;> by_cases h3 : a < c <;> simp [h1, h2, h3]
  rcases key with ⟨h1, e⟩ | ⟨h1, h2, e⟩ | ⟨h1, h2, h3, e⟩ | ⟨h1, h2, h3, e⟩ <;> rw [e] <;> clear e <;> go_enter Tryz.func120, Tryz.ntmps120 <;> go_wp2 <;> go_returns <;> exact ⟨rfl, by (repeat (first | (with_reducible exact LaterOf.refl _) | (with_reducible refine LaterOf.alloc ?_ _) | (with_reducible refine LaterOf.drew ?_) | (with_reducible refine LaterOf.drewN ?_ _) | (with_reducible refine LaterOf.later ?_ _) | (with_reducible refine LaterOf.setCell ?_ (by first | exact Nat.le_refl _ | (simp; done) | omega | (simp; omega)) _)))⟩
theorem refAdd_any (a b c d : Int) (w : World) : Gives Tryz.prog 84 #[vv a b, vv c d] w (vv (wadd a c) (wadd b d)) := by
  apply Gives.ret
  go_enter Tryz.func84, Tryz.ntmps84
  go_wp2
  go_returns
  exact ⟨rfl, by (repeat (first | (with_reducible exact LaterOf.refl _) | (with_reducible refine LaterOf.alloc ?_ _) | (with_reducible refine LaterOf.drew ?_) | (with_reducible refine LaterOf.drewN ?_ _) | (with_reducible refine LaterOf.later ?_ _) | (with_reducible refine LaterOf.setCell ?_ (by first | exact Nat.le_refl _ | (simp; done) | omega | (simp; omega)) _)))⟩
theorem refSub_any (a b c d : Int) (w : World) : Gives Tryz.prog 46 #[vv a b, vv c d] w (vv (wsub a c) (wsub b d)) := by
  apply Gives.ret
  go_enter Tryz.func46, Tryz.ntmps46
  go_wp2
  go_returns
  exact ⟨rfl, by (repeat (first | (with_reducible exact LaterOf.refl _) | (with_reducible refine LaterOf.alloc ?_ _) | (with_reducible refine LaterOf.drew ?_) | (with_reducible refine LaterOf.drewN ?_ _) | (with_reducible refine LaterOf.later ?_ _) | (with_reducible refine LaterOf.setCell ?_ (by first | exact Nat.le_refl _ | (simp; done) | omega | (simp; omega)) _)))⟩
theorem refDot_any (a b c d : Int) (w : World) : Gives Tryz.prog 98 #[vv a b, vv c d] w (.int .i64 (dotI a b c d)) := by
  apply Gives.ret
  go_enter Tryz.func98, Tryz.ntmps98
  go_wp2
  go_returns
  exact ⟨rfl, by (repeat (first | (with_reducible exact LaterOf.refl _) | (with_reducible refine LaterOf.alloc ?_ _) | (with_reducible refine LaterOf.drew ?_) | (with_reducible refine LaterOf.drewN ?_ _) | (with_reducible refine LaterOf.later ?_ _) | (with_reducible refine LaterOf.setCell ?_ (by first | exact Nat.le_refl _ | (simp; done) | omega | (simp; omega)) _)))⟩
theorem refCross_any (a b c d : Int) (w : World) : Gives Tryz.prog 94 #[vv a b, vv c d] w (.int .i64 (crossI a b c d)) := by
  apply Gives.ret
  go_enter Tryz.func94, Tryz.ntmps94
  go_wp2
  go_returns
  exact ⟨rfl, by (repeat (first | (with_reducible exact LaterOf.refl _) | (with_reducible refine LaterOf.alloc ?_ _) | (with_reducible refine LaterOf.drew ?_) | (with_reducible refine LaterOf.drewN ?_ _) | (with_reducible refine LaterOf.later ?_ _) | (with_reducible refine LaterOf.setCell ?_ (by first | exact Nat.le_refl _ | (simp; done) | omega | (simp; omega)) _)))⟩
theorem refTurn_any (a b c d e f : Int) (w : World) : Gives Tryz.prog 59 #[vv a b, vv c d, vv e f] w (.int .i64 (turnI a b c d e f)) := by
  apply Gives.ret
  go_enter Tryz.func59, Tryz.ntmps59
  go_wp2_with fail
  refine region_later (by kernel_rfl) (by kernel_rfl) ?_
  repeat (go_big_quiet_step ((first | refine Gives.later (refSub_any _ _ _ _ _) | refine Gives.later (refCross_any _ _ _ _ _) | refine later_same (sign_any _ _))))
  refine wpQuiet_nil ?_
  rintro _ ⟨x2, rfl⟩
  go_wp2_with fail
  go_returns
  exact ⟨rfl, by (repeat (first | (with_reducible exact LaterOf.refl _) | (with_reducible refine LaterOf.alloc ?_ _) | (with_reducible refine LaterOf.drew ?_) | (with_reducible refine LaterOf.drewN ?_ _) | (with_reducible refine LaterOf.later ?_ _) | (with_reducible refine LaterOf.setCell ?_ (by first | exact Nat.le_refl _ | (simp; done) | omega | (simp; omega)) _)))⟩

end Go.Proofs.YtkpnffokjpgalaaGreat
/- Plain arithmetic that goes round at 2^64. -/
namespace Go.Proofs.YtkpnffokjpgalaaGreat
set_option linter.unusedVariables false
set_option linter.unusedSimpArgs false
open Go.RowKit

theorem wrap_add_l (x y : Int) : wrap64 (wrap64 x + y) = wrap64 (x + y) := by unfold wrap64; omega
theorem wrap_add_r (x y : Int) : wrap64 (x + wrap64 y) = wrap64 (x + y) := by unfold wrap64; omega
theorem wrap_sub_l (x y : Int) : wrap64 (wrap64 x - y) = wrap64 (x - y) := by unfold wrap64; omega
theorem wrap_sub_r (x y : Int) : wrap64 (x - wrap64 y) = wrap64 (x - y) := by unfold wrap64; omega
theorem wrap_neg (x : Int) : wrap64 (-wrap64 x) = wrap64 (-x) := by unfold wrap64; omega
theorem wrap_wrap (x : Int) : wrap64 (wrap64 x) = wrap64 x := by unfold wrap64; omega
theorem wrap_turns (x : Int) : ∃ k : Int, wrap64 x = x + 18446744073709551616 * k := ⟨-((x + 9223372036854775808) / 18446744073709551616), by unfold wrap64; omega⟩
theorem wrap_round (x k : Int) : wrap64 (x + 18446744073709551616 * k) = wrap64 x := by unfold wrap64; omega
theorem wrap_mul_r (x y : Int) : wrap64 (x * wrap64 y) = wrap64 (x * y) := by
  obtain ⟨k, hk⟩ := wrap_turns y
  rw [hk, Int.mul_add, show x * (18446744073709551616 * k) = 18446744073709551616 * (x * k) from by rw [← Int.mul_assoc, Int.mul_comm x, Int.mul_assoc], wrap_round]
theorem wrap_mul_l (x y : Int) : wrap64 (wrap64 x * y) = wrap64 (x * y) := by rw [Int.mul_comm, wrap_mul_r, Int.mul_comm]
theorem crossI_eq (a b c d : Int) : crossI a b c d = wrap64 (a * d - b * c) := by unfold crossI wsub wmul; rw [wrap_sub_l, wrap_sub_r]
theorem dotI_eq (a b c d : Int) : dotI a b c d = wrap64 (a * c + b * d) := by unfold dotI wadd wmul; rw [wrap_add_l, wrap_add_r]
theorem cross_anti (a b c d : Int) : wrap64 (-crossI c d a b) = crossI a b c d := by
  rw [crossI_eq, crossI_eq, wrap_neg]; congr 1; rw [Int.mul_comm c b, Int.mul_comm d a]; omega
theorem cross_self (a b : Int) : crossI a b a b = 0 := by rw [crossI_eq, Int.mul_comm b a, Int.sub_self]; unfold wrap64; omega
theorem dot_symm (a b c d : Int) : dotI c d a b = dotI a b c d := by rw [dotI_eq, dotI_eq, Int.mul_comm c, Int.mul_comm d]
theorem cross_add (a b c d e f : Int) : crossI a b (wadd c e) (wadd d f) = wrap64 (crossI a b c d + crossI a b e f) := by
  rw [crossI_eq, crossI_eq, crossI_eq, wrap_add_l, wrap_add_r]
  unfold wadd
  rw [← wrap_sub_l, ← wrap_sub_r, wrap_mul_r, wrap_mul_r, wrap_sub_l, wrap_sub_r, Int.mul_add, Int.mul_add]
  congr 1; omega
theorem dot_add (a b c d e f : Int) : dotI a b (wadd c e) (wadd d f) = wrap64 (dotI a b c d + dotI a b e f) := by
  rw [dotI_eq, dotI_eq, dotI_eq, wrap_add_l, wrap_add_r]
  unfold wadd
  rw [← wrap_add_l, ← wrap_add_r, wrap_mul_r, wrap_mul_r, wrap_add_l, wrap_add_r, Int.mul_add, Int.mul_add]
  congr 1; omega
end Go.Proofs.YtkpnffokjpgalaaGreat
/- Plain arithmetic for the laws of layer 6: no program in sight. -/
namespace Go.Proofs.YtkpnffokjpgalaaGreat
set_option linter.unusedVariables false
set_option linter.unusedSimpArgs false
open Go.RowKit

theorem mul_bound (x y m n : Int) (hm : 0 ≤ m) (hn : 0 ≤ n) (hx : -m ≤ x ∧ x ≤ m) (hy : -n ≤ y ∧ y ≤ n) : -(m * n) ≤ x * y ∧ x * y ≤ m * n := by
  have h : (x * y).natAbs ≤ (m * n).natAbs := by
    rw [Int.natAbs_mul, Int.natAbs_mul]; exact Nat.mul_le_mul (by omega) (by omega)
  have hp : 0 ≤ m * n := Int.mul_nonneg hm hn
  generalize x * y = z at *
  generalize m * n = k at *
  omega
theorem wsub_in {x y : Int} (h : -9223372036854775808 ≤ x - y ∧ x - y ≤ 9223372036854775807) : wsub x y = x - y := by unfold wsub wrap64; omega
theorem wadd_in {x y : Int} (h : -9223372036854775808 ≤ x + y ∧ x + y ≤ 9223372036854775807) : wadd x y = x + y := by unfold wadd wrap64; omega
theorem wmul_in {x y : Int} (h : -9223372036854775808 ≤ x * y ∧ x * y ≤ 9223372036854775807) : wmul x y = x * y := by unfold wmul wrap64; omega
theorem wneg_in {x : Int} (h : -9223372036854775807 ≤ x ∧ x ≤ 9223372036854775807) : wneg x = -x := by unfold wneg wrap64; omega

/-- Within 2^29. -/
def near29 (x : Int) : Prop := -536870912 ≤ x ∧ x ≤ 536870912
theorem cross_exact {a b c d : Int} (ha : -1073741824 ≤ a ∧ a ≤ 1073741824) (hb : -1073741824 ≤ b ∧ b ≤ 1073741824) (hc : -1073741824 ≤ c ∧ c ≤ 1073741824) (hd : -1073741824 ≤ d ∧ d ≤ 1073741824) : crossI a b c d = a * d - b * c := by
  have h1 := mul_bound a d 1073741824 1073741824 (by omega) (by omega) ha hd
  have h2 := mul_bound b c 1073741824 1073741824 (by omega) (by omega) hb hc
  unfold crossI
  rw [wmul_in (by omega), wmul_in (by omega), wsub_in (by omega)]
theorem turn_exact {a b c d e f : Int} (ha : near29 a) (hb : near29 b) (hc : near29 c) (hd : near29 d) (he : near29 e) (hf : near29 f) : turnI a b c d e f = cmpi ((c - a) * (f - b) - (d - b) * (e - a)) 0 := by
  unfold near29 at *
  unfold turnI
  rw [wsub_in (by omega), wsub_in (by omega), wsub_in (by omega), wsub_in (by omega), cross_exact (by omega) (by omega) (by omega) (by omega)]
theorem cmpi_neg (x : Int) : cmpi (-x) 0 = -cmpi x 0 := by
  rcases cmpi_cases x 0 with ⟨h1, e⟩ | ⟨h1, h2, e⟩ | ⟨h1, h2, e⟩ <;> rcases cmpi_cases (-x) 0 with ⟨g1, f⟩ | ⟨g1, g2, f⟩ | ⟨g1, g2, f⟩ <;> rw [e, f] <;> omega
theorem cmpi_range (x y : Int) : -1 ≤ cmpi x y ∧ cmpi x y ≤ 1 := by
  rcases cmpi_cases x y with ⟨h1, e⟩ | ⟨h1, h2, e⟩ | ⟨h1, h2, e⟩ <;> rw [e] <;> omega
theorem turn_range (a b c d e f : Int) : -1 ≤ turnI a b c d e f ∧ turnI a b c d e f ≤ 1 := cmpi_range _ _

theorem within_spec {x y : Int} (h : withinB x y 268435456 = true) : (-268435456 ≤ x ∧ x ≤ 268435456) ∧ (-268435456 ≤ y ∧ y ≤ 268435456) := by
  unfold withinB at h
  rw [show wneg 268435456 = -268435456 from by unfold wneg wrap64; omega] at h
  simp only [Bool.and_eq_true, decide_eq_true_eq] at h
  omega

section
variable {a b c d e f v w : Int} (ha : -268435456 ≤ a ∧ a ≤ 268435456) (hb : -268435456 ≤ b ∧ b ≤ 268435456) (hc : -268435456 ≤ c ∧ c ≤ 268435456) (hd : -268435456 ≤ d ∧ d ≤ 268435456) (he : -268435456 ≤ e ∧ e ≤ 268435456) (hf : -268435456 ≤ f ∧ f ≤ 268435456) (hv : -268435456 ≤ v ∧ v ≤ 268435456) (hw : -268435456 ≤ w ∧ w ≤ 268435456)
include ha hb hc hd he hf
theorem turn_cyclic : turnI c d e f a b = turnI a b c d e f := by
  rw [turn_exact (by unfold near29; omega) (by unfold near29; omega) (by unfold near29; omega) (by unfold near29; omega) (by unfold near29; omega) (by unfold near29; omega),
    turn_exact (by unfold near29; omega) (by unfold near29; omega) (by unfold near29; omega) (by unfold near29; omega) (by unfold near29; omega) (by unfold near29; omega)]
  congr 1
  grind
theorem turn_swap : turnI a b e f c d = -turnI a b c d e f := by
  rw [turn_exact (by unfold near29; omega) (by unfold near29; omega) (by unfold near29; omega) (by unfold near29; omega) (by unfold near29; omega) (by unfold near29; omega),
    turn_exact (by unfold near29; omega) (by unfold near29; omega) (by unfold near29; omega) (by unfold near29; omega) (by unfold near29; omega) (by unfold near29; omega), ← cmpi_neg]
  congr 1
  grind
include hv hw
theorem turn_moved : turnI (wadd a v) (wadd b w) (wadd c v) (wadd d w) (wadd e v) (wadd f w) = turnI a b c d e f := by
  rw [wadd_in (by omega), wadd_in (by omega), wadd_in (by omega), wadd_in (by omega), wadd_in (by omega), wadd_in (by omega)]
  rw [turn_exact (by unfold near29; omega) (by unfold near29; omega) (by unfold near29; omega) (by unfold near29; omega) (by unfold near29; omega) (by unfold near29; omega),
    turn_exact (by unfold near29; omega) (by unfold near29; omega) (by unfold near29; omega) (by unfold near29; omega) (by unfold near29; omega) (by unfold near29; omega)]
  congr 1
  grind
end
section
variable {a b c d v w : Int} (ha : -268435456 ≤ a ∧ a ≤ 268435456) (hb : -268435456 ≤ b ∧ b ≤ 268435456) (hc : -268435456 ≤ c ∧ c ≤ 268435456) (hd : -268435456 ≤ d ∧ d ≤ 268435456) (hv : -268435456 ≤ v ∧ v ≤ 268435456) (hw : -268435456 ≤ w ∧ w ≤ 268435456)
include ha hb hc hd
theorem turn_same : turnI a b c d c d = 0 := by
  rw [turn_exact (by unfold near29; omega) (by unfold near29; omega) (by unfold near29; omega) (by unfold near29; omega) (by unfold near29; omega) (by unfold near29; omega)]
  rw [show (c - a) * (d - b) - (d - b) * (c - a) = 0 from by grind]
  decide
include hv hw
theorem vcmp_moved : vcmp (wadd a v) (wadd b w) (wadd c v) (wadd d w) = vcmp a b c d := by
  rw [wadd_in (by omega), wadd_in (by omega), wadd_in (by omega), wadd_in (by omega)]
  unfold vcmp
  rw [show cmpi (b + w) (d + w) = cmpi b d from by unfold cmpi; simp, show cmpi (a + v) (c + v) = cmpi a c from by unfold cmpi; simp]
end
theorem vcmp_cases (a b c d : Int) : ((b < d ∨ (b = d ∧ a < c)) ∧ vcmp a b c d = -1) ∨ ((d < b ∨ (b = d ∧ c < a)) ∧ vcmp a b c d = 1) ∨ (b = d ∧ a = c ∧ vcmp a b c d = 0) := by
  unfold vcmp or2
  rcases cmpi_cases b d with ⟨h1, e⟩ | ⟨h1, h2, e⟩ | ⟨h1, h2, e⟩ <;> rcases cmpi_cases a c with ⟨g1, f⟩ | ⟨g1, g2, f⟩ | ⟨g1, g2, f⟩ <;> rw [e, f] <;> simp <;> omega
theorem vcmp_swap (a b c d : Int) : vcmp c d a b = -vcmp a b c d := by
  rcases vcmp_cases a b c d with ⟨h, e⟩ | ⟨h, e⟩ | ⟨h1, h2, e⟩ <;> rcases vcmp_cases c d a b with ⟨g, f⟩ | ⟨g, f⟩ | ⟨g1, g2, f⟩ <;> rw [e, f] <;> omega
theorem vcmp_zero (a b c d : Int) : (vcmp a b c d == 0) = eqv a b c d := by
  unfold eqv
  rcases vcmp_cases a b c d with ⟨h, e⟩ | ⟨h, e⟩ | ⟨h1, h2, e⟩ <;> rw [e] <;> simp <;> omega
theorem vcmp_range (a b c d : Int) : -1 ≤ vcmp a b c d ∧ vcmp a b c d ≤ 1 := by
  rcases vcmp_cases a b c d with ⟨h, e⟩ | ⟨h, e⟩ | ⟨h1, h2, e⟩ <;> rw [e] <;> omega
theorem vcmp_trans {a b c d e f : Int} (h : vcmp a b c d ≤ 0) (k : vcmp c d e f ≤ 0) : vcmp a b e f ≤ 0 := by
  rcases vcmp_cases a b c d with ⟨h, x⟩ | ⟨h, x⟩ | ⟨h1, h2, x⟩ <;> rcases vcmp_cases c d e f with ⟨g, y⟩ | ⟨g, y⟩ | ⟨g1, g2, y⟩ <;> rcases vcmp_cases a b e f with ⟨p, z⟩ | ⟨p, z⟩ | ⟨p1, p2, z⟩ <;> rw [z] <;> omega
end Go.Proofs.YtkpnffokjpgalaaGreat
